/- The walk of the statement ParSums: for all columns the call returns true, and nothing that was there is turned. -/
import Derived.Test.YtmnhdpojonlfhaaParL
namespace Go.Proofs.Ytmnhdpojonlfhaa
open Go.RowKit

theorem strInfo : (Try.prog.info? 9).map (fun i => (i.zero, i.size, i.bytes)) = some (some (.string ⟨#[]⟩), 1, 16) := by kernel_rfl

set_option maxHeartbeats 800000 in
set_option maxRecDepth 100000 in
theorem sums_short (a1 a2 : Option Addr) (n1 n2 c1 c2 : Nat) (l m : List ByteArray) (w : World) (h1 : SSl w a1 n1 c1 l) (h2 : SSl w a2 n2 c2 m)
    (hno : fewB l = false ∨ fewB m = false ∨ n1 = 0 ∨ n2 = 0) :
    Calls Try.prog 3 #[.slice a1 n1 c1, .slice a2 n2 c2] w fun e w' => e = .returned (.bool true) ∧ Below w.heap.size w w' := by
  have HA := Lib.hid awake03_any
  have H1 := Lib.hid fun W (hW : Below w.heap.size w W) => few_any a1 n1 c1 l W (h1.below hW)
  have H2 := Lib.hid fun W (hW : Below w.heap.size w W) => few_any a2 n2 c2 m W (h2.below hW)
  have HN := Lib.hid hno
  clear h1 h2 hno
  rcases hl : fewB l with _ | _ <;> rw [hl] at H1 HN <;> clear hl
  · go_enter Try.func3, Try.ntmps3
    go_wp2_with fail
    refine (HA.out w).mono ?_
    rintro e w1 ⟨rfl, hb1⟩
    go_wp2_with fail
    refine (H1.out w1 hb1).mono ?_
    rintro e w2 ⟨rfl, rfl⟩
    go_wp2_with fail
    refine (HA.out w1).mono ?_
    rintro e w2 ⟨rfl, hb2⟩
    go_wp2_with fail
    go_ret
    exact ⟨rfl, hb1.trans (hb2.mono hb1.size)⟩
  · rcases hm : fewB m with _ | _ <;> rw [hm] at H2 HN <;> clear hm
    · go_enter Try.func3, Try.ntmps3
      go_wp2_with fail
      refine (HA.out w).mono ?_
      rintro e w1 ⟨rfl, hb1⟩
      go_wp2_with fail
      refine (H1.out w1 hb1).mono ?_
      rintro e w2 ⟨rfl, rfl⟩
      go_wp2_with fail
      refine (H2.out w1 hb1).mono ?_
      rintro e w2 ⟨rfl, rfl⟩
      go_wp2_with fail
      refine (HA.out w1).mono ?_
      rintro e w2 ⟨rfl, hb2⟩
      go_wp2_with fail
      go_ret
      exact ⟨rfl, hb1.trans (hb2.mono hb1.size)⟩
    · rcases Nat.eq_zero_or_pos n1 with hn1 | hn1
      · have hz : ((n1 : Int) == 0) = true := by simpa using hn1
        clear hn1
        go_enter Try.func3, Try.ntmps3
        go_wp2_with fail
        refine (HA.out w).mono ?_
        rintro e w1 ⟨rfl, hb1⟩
        go_wp2_with fail
        refine (H1.out w1 hb1).mono ?_
        rintro e w2 ⟨rfl, rfl⟩
        go_wp2_with fail
        refine (H2.out w1 hb1).mono ?_
        rintro e w2 ⟨rfl, rfl⟩
        go_wp2_with fail
        refine (HA.out w1).mono ?_
        rintro e w2 ⟨rfl, hb2⟩
        go_wp2_with fail
        go_ret
        exact ⟨rfl, hb1.trans (hb2.mono hb1.size)⟩
      · have hn2 : n2 = 0 := by have := HN.out; simp at this; omega
        have hz : ((n1 : Int) == 0) = false := by simp; omega
        have hz2 : ((n2 : Int) == 0) = true := by simpa using hn2
        clear hn1 hn2
        go_enter Try.func3, Try.ntmps3
        go_wp2_with fail
        refine (HA.out w).mono ?_
        rintro e w1 ⟨rfl, hb1⟩
        go_wp2_with fail
        refine (H1.out w1 hb1).mono ?_
        rintro e w2 ⟨rfl, rfl⟩
        go_wp2_with fail
        refine (H2.out w1 hb1).mono ?_
        rintro e w2 ⟨rfl, rfl⟩
        go_wp2_with fail
        refine (HA.out w1).mono ?_
        rintro e w2 ⟨rfl, hb2⟩
        go_wp2_with fail
        go_ret
        exact ⟨rfl, hb1.trans (hb2.mono hb1.size)⟩

set_option maxHeartbeats 800000 in
set_option maxRecDepth 100000 in
theorem sums_long (a1 a2 : Option Addr) (n1 n2 c1 c2 : Nat) (l m : List ByteArray) (w : World) (h1 : SSl w a1 n1 c1 l) (h2 : SSl w a2 n2 c2 m)
    (hl : fewB l = true) (hm : fewB m = true) (hn1 : 0 < n1) (hn2 : 0 < n2) :
    Calls Try.prog 3 #[.slice a1 n1 c1, .slice a2 n2 c2] w fun e w' => e = .returned (.bool true) ∧ Below w.heap.size w w' := by
  have hl1 := h1.len
  have hl2 := h2.len
  have hs1 := few_len hl
  have hs2 := few_len hm
  obtain ⟨b1, o1, rfl, _⟩ := h1.pos hn1
  obtain ⟨b2, o2, rfl, _⟩ := h2.pos hn2
  obtain ⟨i0, hi, hi0, hi1, hi2⟩ := info_parts strInfo
  have HA := Lib.hid awake03_any
  have H1 := Lib.hid fun W (hW : Below w.heap.size w W) => few_any _ n1 c1 l W (h1.below hW)
  have H2 := Lib.hid fun W (hW : Below w.heap.size w W) => few_any _ n2 c2 m W (h2.below hW)
  have K1 := Lib.hid h1
  have K2 := Lib.hid h2
  have L1 := Lib.hid hl1
  have L2 := Lib.hid hl2
  have F1 := Lib.hid hl
  have F2 := Lib.hid hm
  rw [hl] at H1
  rw [hm] at H2
  have hb1 : n1 < 30 := by omega
  have hb2 : n2 < 30 := by omega
  have hz : ((n1 : Int) == 0) = false := by simp; omega
  have hz2 : ((n2 : Int) == 0) = false := by simp; omega
  clear h1 h2 hl1 hl2 hs1 hs2 hl hm
  go_enter Try.func3, Try.ntmps3
  go_wp2_with fail
  refine (HA.out w).mono ?_
  rintro e w1 ⟨rfl, hb1⟩
  go_wp2_with fail
  refine (H1.out w1 hb1).mono ?_
  rintro e w2 ⟨rfl, rfl⟩
  go_wp2_with fail
  refine (H2.out w1 hb1).mono ?_
  rintro e w2 ⟨rfl, rfl⟩
  have hmade := World.ownsRow_made (base := w1.heap.size) (e := 9) (size := 1) w1 #[] 0 (Nat.le_refl _) (by unfold maxLen; omega) rfl
  have HB1 := Lib.hid hb1
  clear hb1
  go_wp2_with (first
    | (at_builtin; refine wpList_append_own _ rfl (.tmp 39) (.tmp 40) 22 rfl w1.heap.size 9 i0 (.string ⟨#[]⟩) 1 16 Try.underlying22 hi hi0 hi1 hi2 rfl (by decide) (.slice (some ⟨w1.heap.size, 0, none⟩) 0 0) 0 [] rfl hmade ⟨b1, o1, none⟩ n1 c1 (encS l) rfl (by rw [encS_length, L1.out, Nat.mul_one]) (RSl.news ((K1.out.below HB1.out).below ((Below.refl _ _).alloc (Nat.le_refl _) _))) (encS_one l) (by unfold maxLen; omega) (by omega) (by simp) ?_; intro v1 w2 hown1 hgrow1 _; simp only [Nat.zero_add, List.nil_append] at hown1; have HB2 := Lib.hid (below_own (HB1.out.alloc HB1.out.size _) hmade hgrow1 (by have := HB1.out.size; simp; omega) HB1.out.size); have hs2 := hgrow1.size; simp only [World.size_alloc] at hs2)
    | (at_builtin; refine wpList_append_own _ rfl (.tmp 41) (.tmp 42) 22 rfl w1.heap.size 9 i0 (.string ⟨#[]⟩) 1 16 Try.underlying22 hi hi0 hi1 hi2 rfl (by decide) v1 n1 (encS l) rfl hown1 ⟨b2, o2, none⟩ n2 c2 (encS m) rfl (by rw [encS_length, L2.out, Nat.mul_one]) (RSl.news (K2.out.below HB2.out)) (encS_one m) (by unfold maxLen; omega) (by omega) (by omega) ?_; intro v2 w3 hown2 hgrow2 _; have HB3 := Lib.hid (below_own HB2.out hown1 hgrow2 (by have := HB1.out.size; omega) HB1.out.size)))
  obtain ⟨ao, cap, rfl, hr⟩ := RSl.of_owns hown2
  rw [← encS_append] at hr hown2
  have KA : Hid (SSl w3 ao (n1 + n2) cap (l ++ m)) := Lib.hid hr
  have hs3 := hgrow2.size
  have HO := Lib.hid (owns_weaken hown2 HB1.out.size)
  clear hr hown2 hown1 hgrow1 hgrow2 hmade
  cases hev : evenL (l ++ m) with
  | false =>
    have HM := Lib.hid (make_no ao (n1 + n2) cap (l ++ m) w3 KA.out (by omega) (Or.inr hev))
    have HE := Lib.hid fun W (hW : Below w3.heap.size w3 W) => even_any ao (n1 + n2) cap (l ++ m) W (KA.out.below hW) (by omega)
    rw [hev] at HE
    clear hev
    refine HM.out.mono ?_
    rintro e w4 ⟨rfl, hb4⟩
    go_wp2_with fail
    refine (HE.out w4 hb4).mono ?_
    rintro e w5 ⟨rfl, hb5⟩
    go_wp2_with fail
    go_ret
    exact ⟨rfl, HB3.out.trans ((hb4.trans (hb5.mono hb4.size)).mono (by have := HB1.out.size; omega))⟩
  | true =>
    have hsz := evenL_size hev
    obtain ⟨q, hq⟩ : ∃ q, q = ((l ++ m).getD 0 ByteArray.empty).size := ⟨_, rfl⟩
    rw [← hq] at hsz
    have hq4 : q ≤ 4000 := by
      cases l with
      | nil => have := L1.out; simp at this; omega
      | cons a r => have := few_size F1.out a (by simp); rw [hq]; simpa using this
    have HM := Lib.hid (make_yes ao (n1 + n2) cap q (l ++ m) w3 KA.out (by omega) (by omega) (by omega) hsz)
    have HX := Lib.hid fun W (hW : Below w.heap.size w W) => make_yes _ n1 c1 q l W (K1.out.below hW) (by omega) hn1 (by omega) (fun s hs => hsz s (by simp [hs]))
    have HY := Lib.hid fun W (hW : Below w.heap.size w W) => make_yes _ n2 c2 q m W (K2.out.below hW) (by omega) hn2 (by omega) (fun s hs => hsz s (by simp [hs]))
    have HZ := Lib.hid fun (W : World) => make_yes (some ⟨W.heap.size, 0, none⟩) 2 2 q [xorS q l, xorS q m] (W.alloc (.cells (encS [xorS q l, xorS q m]).toArray 9)) (SSl.lit W 9 [xorS q l, xorS q m] (by unfold maxLen; simp)) (by omega) (by omega) (by omega) (by intro s hs; simp at hs; rcases hs with rfl | rfl <;> exact xorS_size _ _)
    rw [sums_two] at HZ
    have HS := Lib.hid hsz
    clear hev hsz hq
    have hbB : w.heap.size ≤ w3.heap.size := HB3.out.size
    refine HM.out.mono ?_
    rintro e w4 ⟨rfl, hb4⟩
    have B4 := Lib.hid (HB3.out.trans (hb4.mono hbB))
    have O4 := Lib.hid (owns_below HO.out hb4)
    clear hb4
    go_wp2_with fail
    refine (HX.out w4 B4.out).mono ?_
    rintro e w5 ⟨rfl, hb5⟩
    have B5 := Lib.hid (B4.out.trans (hb5.mono B4.out.size))
    have O5 := Lib.hid (owns_below O4.out hb5)
    clear hb5
    go_wp2_with fail
    refine (HY.out w5 B5.out).mono ?_
    rintro e w6 ⟨rfl, hb6⟩
    have B6 := Lib.hid (B5.out.trans (hb6.mono B5.out.size))
    have O6 := Lib.hid (owns_below O5.out hb6)
    clear hb6
    go_wp2_with fail
    refine (HZ.out w6).mono ?_
    rintro e w7 ⟨rfl, hb7⟩
    have hb7' := ((Below.refl w6.heap.size w6).alloc (Nat.le_refl _) (.cells (encS [xorS q l, xorS q m]).toArray 9)).trans (hb7.mono (by simp))
    have B7 := Lib.hid (B6.out.trans (hb7'.mono B6.out.size))
    have O7 := Lib.hid (owns_below O6.out hb7')
    clear hb7 hb7'
    obtain ⟨j0, hj, hj0, hj1, hj2⟩ := info_parts u8info
    go_wp2_with (first
      | (at_make; refine wpList_make_full w7 rfl (.tmp 74) (.tmp 74) 29 rfl w7.heap.size 5 j0 (.int .u8 0) 1 Try.underlying29 hj hj0 hj1 .i64 .i64 _ _ q rfl rfl (by rw [xorL_length]) (by rw [xorL_length]) (by rw [hj2]; omega) (by unfold maxLen; omega) (Nat.le_refl _) ?_; intro w8 hown8 hgrow8; rw [enc8_zero] at hown8; have hcv := run_string_of_own (P := Try.prog) hown8 29 5 9 Try.underlying29 Try.underlying5 Try.underlying9; have O8 := Lib.hid (O7.out.kept hgrow8 (by cases h : (Value.slice ao (n1 + n2) cap).ownBlock <;> simp)); have B8 := Lib.hid (B7.out.grown hgrow8 B7.out.size (by simp)))
      | (at_builtin; refine wpList_append_own _ rfl (.tmp 72) (.tmp 77) 22 rfl w.heap.size 9 i0 (.string ⟨#[]⟩) 1 16 Try.underlying22 hi hi0 hi1 hi2 rfl (by decide) (.slice ao (n1 + n2) cap) (n1 + n2) (encS (l ++ m)) rfl (O8.out.alloc _) ⟨w8.heap.size, 0, none⟩ 1 1 (encS [⟨(List.replicate q 0).toArray⟩]) rfl rfl (news_one w8 _ _) (encS_one _) (by unfold maxLen; omega) (by omega) (by have := B8.out.size; simp; omega) ?_; intro v9 w9 hown9 hgrow9 _))
    rw [← encS_append] at hown9
    have B9 := Lib.hid (below_own (B8.out.alloc B8.out.size _) (O8.out.alloc _) hgrow9 (by have := B8.out.size; simp; omega) (Nat.le_refl _))
    obtain ⟨ao9, cap9, rfl, hr9⟩ := RSl.of_owns hown9
    have hq9 : ∀ s ∈ (l ++ m) ++ [(⟨(List.replicate q 0).toArray⟩ : ByteArray)], s.size = q := by
      intro s hs
      rcases List.mem_append.1 hs with hs | hs
      · exact HS.out s hs
      · simp only [List.mem_singleton] at hs
        subst hs
        show (List.replicate q (0 : UInt8)).toArray.size = q
        simp
    have hr9' : SSl w9 ao9 (n1 + n2 + 1) cap9 ((l ++ m) ++ [(⟨(List.replicate q 0).toArray⟩ : ByteArray)]) := hr9
    have HW := Lib.hid (make_yes ao9 (n1 + n2 + 1) cap9 q _ w9 hr9' (by omega) (by omega) (by omega) hq9)
    rw [sums_blank] at HW
    clear hown9 hr9 hr9' hq9 hgrow9 hcv hown8 hgrow8
    refine HW.out.mono ?_
    rintro e w10 ⟨rfl, hb10⟩
    go_wp2_with fail
    go_ret
    exact ⟨rfl, B9.out.trans (hb10.mono B9.out.size)⟩
theorem sums_any (a1 : Option Addr) (n1 c1 : Nat) (l : List ByteArray) (a2 : Option Addr) (n2 c2 : Nat) (m : List ByteArray) (w : World) (h1 : SSl w a1 n1 c1 l) (h2 : SSl w a2 n2 c2 m) :
    Calls Try.prog 3 #[.slice a1 n1 c1, .slice a2 n2 c2] w fun e w' => e = .returned (.bool true) ∧ Below w.heap.size w w' := by
  by_cases h : fewB l = false ∨ fewB m = false ∨ n1 = 0 ∨ n2 = 0
  · exact sums_short a1 a2 n1 n2 c1 c2 l m w h1 h2 h
  · simp only [not_or, Bool.not_eq_false] at h
    exact sums_long a1 a2 n1 n2 c1 c2 l m w h1 h2 h.1 h.2.1 (by omega) (by omega)
end Go.Proofs.Ytmnhdpojonlfhaa
