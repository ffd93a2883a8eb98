/- The walk of the statement ParBlank. -/
import Derived.Test.YtmnhdpojonlfhaaDoorParA
import Derived.Test.YtmnhdpojonlfhaaDoorParT2
namespace Go.Proofs.YtmnhdpojonlfhaaDoor
open Go.RowKit

theorem zeros_all (q : Nat) (l : List ByteArray) : zerosB (xorS q (l ++ [xorS q l])).data.toList = true := by
  rw [xorS_toList]
  refine zerosB_true fun x hx => ?_
  rw [xorL_length] at hx
  rw [xorL_getD q x _ hx, xorAt_all q x l hx]
theorem xorS_one (q : Nat) (s : ByteArray) (hs : s.size = q) : xorS q [s] = s := by
  refine ba_ext ?_
  rw [xorS_toList]
  refine xorL_ext q _ _ (by rw [len_data, hs]) fun j hj => ?_
  rw [xorAt_cons, xorAt_nil]
  simp

set_option maxHeartbeats 800000 in
set_option maxRecDepth 100000 in
theorem blankL_short (a1 : Option Addr) (n1 c1 : Nat) (l : List ByteArray) (w : World) (h1 : SSl w a1 n1 c1 l) (hno : fewB l = false ∨ n1 = 0 ∨ evenL l = false) :
    Calls Tryd.prog 4 #[.slice a1 n1 c1] w fun e w' => e = .returned (.bool true) ∧ Below w.heap.size w w' := by
  have HA := Lib.hid awake03_any
  have H1 := Lib.hid fun W (hW : Below w.heap.size w W) => few_any a1 n1 c1 l W (h1.below hW)
  have hl1 := h1.len
  rcases hl : fewB l with _ | _
  · rw [hl] at H1
    clear hl h1 hno hl1
    go_enter Tryd.func4, Tryd.ntmps4
    go_wp2_with fail
    refine (HA.out w).mono ?_
    rintro e w1 ⟨rfl, hb1⟩
    go_wp2_with fail
    refine (H1.out w1 hb1).mono ?_
    rintro e w2 ⟨rfl, rfl⟩
    go_wp2_with fail
    refine (HA.out w1).mono ?_
    rintro e w2 ⟨rfl, hb2⟩
    go_wp2_with fail
    go_ret
    exact ⟨rfl, hb1.trans (hb2.mono hb1.size)⟩
  · have hlt : n1 < 30 := by have := few_len hl; omega
    have HM := Lib.hid fun W (hW : Below w.heap.size w W) => make_no a1 n1 c1 l W (h1.below hW) (by omega) (by rw [hl] at hno; simpa using hno)
    rw [hl] at H1
    clear hl h1 hno hl1
    go_enter Tryd.func4, Tryd.ntmps4
    go_wp2_with fail
    refine (HA.out w).mono ?_
    rintro e w1 ⟨rfl, hb1⟩
    go_wp2_with fail
    refine (H1.out w1 hb1).mono ?_
    rintro e w2 ⟨rfl, rfl⟩
    go_wp2_with fail
    refine (HM.out w1 hb1).mono ?_
    rintro e w2 ⟨rfl, hb2⟩
    go_wp2_with fail
    go_ret
    exact ⟨by first | rfl | simp, hb1.trans (hb2.mono hb1.size)⟩

set_option maxHeartbeats 1600000 in
set_option maxRecDepth 100000 in
theorem blankL_long (a1 : Option Addr) (n1 c1 : Nat) (l : List ByteArray) (w : World) (h1 : SSl w a1 n1 c1 l) (hl : fewB l = true) (hn1 : 0 < n1) (hev : evenL l = true) :
    Calls Tryd.prog 4 #[.slice a1 n1 c1] w fun e w' => e = .returned (.bool true) ∧ Below w.heap.size w w' := by
  have hl1 := h1.len
  have hs1 := few_len hl
  obtain ⟨b1, o1, rfl, hbl, hcc⟩ := h1.pos hn1
  obtain ⟨i0, hi, hi0, hi1, hi2⟩ := info_parts infoS
  have hsz := evenL_size hev
  obtain ⟨q, hq⟩ : ∃ q, q = (l.getD 0 ByteArray.empty).size := ⟨_, rfl⟩
  rw [← hq] at hsz
  have hq4 : q ≤ 4000 := by
    cases l with
    | nil => simp at hl1; omega
    | cons x r => have := few_size hl x (by simp); rw [hq]; simpa using this
  have hone : n1 = 1 → l.getD 0 ByteArray.empty = xorS q l := by
    intro h
    match l, hl1 with
    | [s], _ => exact (xorS_one q s (hsz s (by simp))).symm
    | [], h' => simp at h'; omega
    | a :: b :: r, h' => simp at h'; omega
  have hc0 := hcc 0 hn1
  have HA := Lib.hid awake03_any
  have H1 := Lib.hid fun W (hW : Below w.heap.size w W) => few_any _ n1 c1 l W (h1.below hW)
  have HM := Lib.hid fun W (hW : Below w.heap.size w W) => make_yes _ n1 c1 q l W (h1.below hW) (by omega) hn1 (by omega) hsz
  have K1 := Lib.hid h1
  have L1 := Lib.hid hl1
  have HS := Lib.hid hsz
  have HONE := Lib.hid hone
  have HC0 := Lib.hid hc0
  rw [hl] at H1
  have hb1 : n1 < 30 := by omega
  have hal : ∀ s ∈ l ++ [xorS q l], s.size = q := by
    intro s hs
    rcases List.mem_append.1 hs with hs | hs
    · exact hsz s hs
    · rw [List.mem_singleton.1 hs]; exact xorS_size _ _
  have HAL := Lib.hid hal
  have HZ := Lib.hid (zeros_all q l)
  clear h1 hl1 hs1 hl hev hsz hq hone hcc hc0 hal
  go_enter Tryd.func4, Tryd.ntmps4
  go_wp2_with fail
  refine (HA.out w).mono ?_
  rintro e w1 ⟨rfl, hb1⟩
  go_wp2_with fail
  refine (H1.out w1 hb1).mono ?_
  rintro e w2 ⟨rfl, rfl⟩
  go_wp2_with fail
  refine (HM.out w1 hb1).mono ?_
  rintro e w2 ⟨rfl, hb2⟩
  have B2 := Lib.hid (hb1.trans (hb2.mono hb1.size))
  clear hb1 hb2
  have hmade := World.ownsRow_made (base := w2.heap.size) (e := 9) (size := 1) w2 #[] 0 (Nat.le_refl _) (by unfold maxLen; omega) rfl
  go_wp2_with (first
    | (at_builtin; refine wpList_append_own _ rfl (.tmp 25) (.tmp 26) 22 rfl w2.heap.size 9 i0 (.string ⟨#[]⟩) 1 16 Tryd.underlying22 hi hi0 hi1 hi2 rfl (by decide) (.slice (some ⟨w2.heap.size, 0, none⟩) 0 0) 0 [] rfl hmade ⟨b1, o1, none⟩ n1 c1 (encS l) rfl (by rw [encS_length, L1.out, Nat.mul_one]) (RSl.news ((K1.out.below B2.out).below ((Below.refl _ _).alloc (Nat.le_refl _) _))) (encS_one l) (by unfold maxLen; omega) (by omega) (by simp) ?_; intro v3 w3 hown3 hgrow3 _; simp only [Nat.zero_add, List.nil_append] at hown3; have B3 := Lib.hid (below_own (B2.out.alloc B2.out.size _) hmade hgrow3 (by have := B2.out.size; simp; omega) B2.out.size); have hs3 := hgrow3.size; simp only [World.size_alloc] at hs3)
    | (at_builtin; go_must (refine wpList_append_own _ rfl (.tmp 27) (.tmp 29) 22 rfl w2.heap.size 9 i0 (.string ⟨#[]⟩) 1 16 Tryd.underlying22 hi hi0 hi1 hi2 rfl (by decide) v3 n1 (encS l) rfl (hown3.alloc _) ⟨w3.heap.size, 0, none⟩ 1 1 (encS [xorS q l]) rfl rfl (news_one w3 _ _) (encS_one _) (by unfold maxLen; omega) (by omega) (by rw [World.size_alloc]; omega) ?_; intro v4 w4 hown4 hgrow4 _; rw [← encS_append] at hown4; have B4 := Lib.hid (below_own (B3.out.alloc B3.out.size _) (hown3.alloc _) hgrow4 (by have := B3.out.size; rw [World.size_alloc]; omega) B2.out.size); obtain ⟨ao4, cap4, rfl, hr4⟩ := RSl.of_owns hown4; have HR4 := Lib.hid hr4)))
  clear hown4 hgrow4 hown3 hgrow3 hmade hr4
  have HM4 := Lib.hid (make_yes ao4 (n1 + 1) cap4 q (l ++ [xorS q l]) w4 HR4.out (by omega) (by omega) (by omega) HAL.out)
  have HE4 := Lib.hid fun W (hW : Below w4.heap.size w4 W) => even_any ao4 (n1 + 1) cap4 (l ++ [xorS q l]) W (SSl.below HR4.out hW) (by omega)
  rw [evenL_of _ q HAL.out] at HE4
  refine HM4.out.mono ?_
  rintro e w5 ⟨rfl, hb5⟩
  have B5 := Lib.hid (B4.out.trans (hb5.mono B4.out.size))
  have C5 := Lib.hid hb5
  clear hb5
  go_wp2_with fail
  refine (blank_any (xorS q (l ++ [xorS q l])) w5 (by rw [xorS_size]; omega)).mono ?_
  rintro e w6 ⟨rfl, hb6⟩
  rw [HZ.out]
  have B6 := Lib.hid (B5.out.trans (hb6.mono B5.out.size))
  have C6 := Lib.hid (C5.out.trans (hb6.mono C5.out.size))
  clear hb6
  go_wp2_with fail
  refine (HE4.out w6 C6.out).mono ?_
  rintro e w7 ⟨rfl, hb7⟩
  have B7 := Lib.hid (B6.out.trans (hb7.mono B6.out.size))
  have hc7 : w7.cell? ⟨b1, o1, none⟩ = some (.string (l.getD 0 ByteArray.empty)) := (B7.out.cell (p := ⟨b1, o1, none⟩) hbl).trans HC0.out
  clear hb7
  by_cases hn : n1 = 1
  · have hz : ((n1 : Int) != 1) = false := by simp; omega
    rw [HONE.out hn] at hc7
    clear hn
    go_wp2_with fail
    go_ret
    exact ⟨by first | rfl | (simp; exact ByteArray.toList_mk _), B7.out⟩
  · have hz : ((n1 : Int) != 1) = true := by simp; omega
    clear hn
    go_wp2_with fail
    go_ret
    exact ⟨by first | rfl | simp, B7.out⟩

theorem blankL_any (a1 : Option Addr) (n1 c1 : Nat) (l : List ByteArray) (w : World) (h1 : SSl w a1 n1 c1 l) :
    Calls Tryd.prog 4 #[.slice a1 n1 c1] w fun e w' => e = .returned (.bool true) ∧ Below w.heap.size w w' := by
  by_cases h : fewB l = false ∨ n1 = 0 ∨ evenL l = false
  · exact blankL_short a1 n1 c1 l w h1 h
  · simp only [not_or, Bool.not_eq_false] at h
    exact blankL_long a1 n1 c1 l w h1 h.1 (by omega) h.2.2
end Go.Proofs.YtmnhdpojonlfhaaDoor
