/- The walk of the statement ParAgain: for every input the call returns true, and nothing that was there is turned. -/
import Derived.Test.YtmnhdpojonlfhaaParA
namespace Go.Proofs.Ytmnhdpojonlfhaa
open Go.RowKit

set_option maxHeartbeats 800000 in
set_option maxRecDepth 100000 in
theorem againL_short (a1 : Option Addr) (n1 c1 : Nat) (l : List ByteArray) (a : Int) (o : ByteArray) (w : World) (h1 : SSl w a1 n1 c1 l)
    (hno : fewB l = false ∨ n1 = 0 ∨ evenL l = false) :
    Calls Try.prog 4 #[.slice a1 n1 c1, .int .u8 a, .string o] w fun e w' => e = .returned (.bool true) ∧ Below w.heap.size w w' := by
  have HA := Lib.hid awake03_any
  have H1 := Lib.hid fun W (hW : Below w.heap.size w W) => few_any a1 n1 c1 l W (h1.below hW)
  have K1 := Lib.hid h1
  have HN := Lib.hid hno
  have hl1 := h1.len
  have L1 := Lib.hid hl1
  rcases hl : fewB l with _ | _
  · rw [hl] at H1 HN
    clear hl h1 hno hl1
    go_enter Try.func4, Try.ntmps4
    go_wp2_with fail
    refine (HA.out w).mono ?_
    rintro e w1 ⟨rfl, hb1⟩
    go_wp2_with fail
    refine (H1.out w1 hb1).mono ?_
    rintro e w2 ⟨rfl, rfl⟩
    go_wp2_with fail
    refine (HA.out w1).mono ?_
    rintro e w2 ⟨rfl, hb2⟩
    go_wp2_with fail
    go_ret
    exact ⟨rfl, hb1.trans (hb2.mono hb1.size)⟩
  · have hlt : n1 < 30 := by have := few_len hl; omega
    have HM := Lib.hid fun W (hW : Below w.heap.size w W) => make_no a1 n1 c1 l W (h1.below hW) (by omega) (by rw [hl] at hno; simpa using hno)
    rw [hl] at H1 HN
    clear hl h1 hno hl1
    by_cases hn0 : n1 = 0
    · have hz : ((n1 : Int) == 0) = true := by simpa using hn0
      clear hn0
      go_enter Try.func4, Try.ntmps4
      go_wp2_with fail
      refine (HA.out w).mono ?_
      rintro e w1 ⟨rfl, hb1⟩
      go_wp2_with fail
      refine (H1.out w1 hb1).mono ?_
      rintro e w2 ⟨rfl, rfl⟩
      go_wp2_with fail
      refine (HM.out w1 hb1).mono ?_
      rintro e w2 ⟨rfl, hb2⟩
      go_wp2_with fail
      go_ret
      exact ⟨rfl, hb1.trans (hb2.mono hb1.size)⟩
    · have hz : ((n1 : Int) == 0) = false := by simpa using hn0
      have hev : evenL l = false := by have := HN.out; simp at this; exact this.resolve_left hn0
      have HE := Lib.hid fun W (hW : Below w.heap.size w W) => even_any a1 n1 c1 l W (K1.out.below hW) (by omega)
      rw [hev] at HE
      clear hn0 hev
      go_enter Try.func4, Try.ntmps4
      go_wp2_with fail
      refine (HA.out w).mono ?_
      rintro e w1 ⟨rfl, hb1⟩
      go_wp2_with fail
      refine (H1.out w1 hb1).mono ?_
      rintro e w2 ⟨rfl, rfl⟩
      go_wp2_with fail
      refine (HM.out w1 hb1).mono ?_
      rintro e w2 ⟨rfl, hb2⟩
      go_wp2_with fail
      refine (HE.out w2 (hb1.trans (hb2.mono hb1.size))).mono ?_
      rintro e w3 ⟨rfl, hb3⟩
      go_wp2_with fail
      go_ret
      exact ⟨rfl, (hb1.trans (hb2.mono hb1.size)).trans (hb3.mono (Nat.le_trans hb1.size hb2.size))⟩

set_option maxHeartbeats 800000 in
set_option maxRecDepth 100000 in
theorem againL_long (a1 : Option Addr) (n1 c1 : Nat) (l : List ByteArray) (a : Nat) (o : ByteArray) (w : World) (h1 : SSl w a1 n1 c1 l) (ha : a ≤ 255)
    (hl : fewB l = true) (hn1 : 0 < n1) (hev : evenL l = true) :
    Calls Try.prog 4 #[.slice a1 n1 c1, .int .u8 a, .string o] w fun e w' => e = .returned (.bool true) ∧ Below w.heap.size w w' := by
  have hl1 := h1.len
  have hs1 := few_len hl
  obtain ⟨b1, o1, rfl, _⟩ := h1.pos hn1
  obtain ⟨i0, hi, hi0, hi1, hi2⟩ := info_parts infoS
  have hsz := evenL_size hev
  obtain ⟨q, hq⟩ : ∃ q, q = (l.getD 0 ByteArray.empty).size := ⟨_, rfl⟩
  rw [← hq] at hsz
  have hq4 : q ≤ 4000 := by
    cases l with
    | nil => simp at hl1; omega
    | cons x r => have := few_size hl x (by simp); rw [hq]; simpa using this
  have HA := Lib.hid awake03_any
  have H1 := Lib.hid fun W (hW : Below w.heap.size w W) => few_any _ n1 c1 l W (h1.below hW)
  have HM := Lib.hid fun W (hW : Below w.heap.size w W) => make_yes _ n1 c1 q l W (h1.below hW) (by omega) hn1 (by omega) hsz
  have HR := Lib.hid fun p W (hW : Below w.heap.size w W) => right_yes p _ n1 c1 q l W (h1.below hW) (by omega) hn1 (by omega) hsz
  have K1 := Lib.hid h1
  have L1 := Lib.hid hl1
  have HS := Lib.hid hsz
  have hk0 : (0 : Int) ≤ (a : Int) % ((n1 : Int) + 1) := Int.emod_nonneg _ (by omega)
  have HK := Lib.hid (Nat.mod_lt a (show 0 < n1 + 1 by omega))
  have hk1 : (a : Int) % ((n1 : Int) + 1) < (n1 : Int) + 1 := by have := Int.emod_lt_of_pos (a : Int) (show (0 : Int) < (n1 : Int) + 1 by omega); exact this
  rw [hl] at H1
  have hb1 : n1 < 30 := by omega
  clear h1 hl1 hs1 hl hev hsz hq
  go_enter Try.func4, Try.ntmps4
  go_wp2_with fail
  refine (HA.out w).mono ?_
  rintro e w1 ⟨rfl, hb1⟩
  go_wp2_with fail
  refine (H1.out w1 hb1).mono ?_
  rintro e w2 ⟨rfl, rfl⟩
  go_wp2_with fail
  refine (HM.out w1 hb1).mono ?_
  rintro e w2 ⟨rfl, hb2⟩
  have B2 := Lib.hid (hb1.trans (hb2.mono hb1.size))
  clear hb1 hb2
  have hmade := World.ownsRow_made (base := w2.heap.size) (e := 9) (size := 1) w2 #[] 0 (Nat.le_refl _) (by unfold maxLen; omega) rfl
  go_wp2_with (first
    | (at_builtin; refine wpList_append_own _ rfl (.tmp 41) (.tmp 42) 22 rfl w2.heap.size 9 i0 (.string ⟨#[]⟩) 1 16 Try.underlying22 hi hi0 hi1 hi2 rfl (by decide) (.slice (some ⟨w2.heap.size, 0, none⟩) 0 0) 0 [] rfl hmade ⟨b1, o1, none⟩ n1 c1 (encS l) rfl (by rw [encS_length, L1.out, Nat.mul_one]) (RSl.news ((K1.out.below B2.out).below ((Below.refl _ _).alloc (Nat.le_refl _) _))) (encS_one l) (by unfold maxLen; omega) (by omega) (by simp) ?_; intro v3 w3 hown3 hgrow3 _; simp only [Nat.zero_add, List.nil_append] at hown3; have B3 := Lib.hid (below_own (B2.out.alloc B2.out.size _) hmade hgrow3 (by have := B2.out.size; simp; omega) B2.out.size); have hs3 := hgrow3.size; simp only [World.size_alloc] at hs3)
    | (at_builtin; go_must (refine wpList_append_own _ rfl (.tmp 43) (.tmp 45) 22 rfl w2.heap.size 9 i0 (.string ⟨#[]⟩) 1 16 Try.underlying22 hi hi0 hi1 hi2 rfl (by decide) v3 n1 (encS l) rfl (hown3.alloc _) ⟨w3.heap.size, 0, none⟩ 1 1 (encS [xorS q l]) rfl rfl (news_one w3 _ _) (encS_one _) (by unfold maxLen; omega) (by omega) (by rw [World.size_alloc]; omega) ?_; intro v4 w4 hown4 hgrow4 _; rw [← encS_append] at hown4; have B4 := Lib.hid (below_own (B3.out.alloc B3.out.size _) (hown3.alloc _) hgrow4 (by have := B3.out.size; rw [World.size_alloc]; omega) B2.out.size); obtain ⟨g, cap, rfl, hg⟩ := owns_headv hown4 (by omega); obtain ⟨was, hwas⟩ : ∃ was, was = (l ++ [xorS q l]).getD (a % (n1 + 1)) ByteArray.empty := ⟨_, rfl⟩; have hcg : w4.cell? ⟨g, a % (n1 + 1), none⟩ = some (.string was) := (by rw [hwas]; exact owns_cellS hown4 HK.out); have hfg := hown4.frozenAt (a % (n1 + 1)); have hst := (hown4.stored (a % (n1 + 1)) (.string o)); have HST := Lib.hid hst; have WAS := Lib.hid hwas; clear hwas hst)))
  clear hcg hfg hown4 hgrow4 hown3 hgrow3 hmade
  have hw5 : Below w.heap.size w (w4.setCell ⟨g, a % (n1 + 1), none⟩ (.string o)) := B4.out.setCell (p := ⟨g, a % (n1 + 1), none⟩) (Nat.le_trans B2.out.size hg) _
  have hown5 := HST.out.1
  have e5 : (encS (l ++ [xorS q l])).set (a % (n1 + 1)) (.string o) = encS ((l ++ [xorS q l]).set (a % (n1 + 1)) o) := by simp [encS, List.map_set]
  rw [e5] at hown5
  have hss := SSl.of_owns hown5
  have hal : ∀ s ∈ l ++ [xorS q l], s.size = q := by
    intro s hs
    rcases List.mem_append.1 hs with hs | hs
    · exact HS.out s hs
    · rw [List.mem_singleton.1 hs]; exact xorS_size _ _
  have hag := again_yes (some ⟨g, 0, none⟩) (n1 + 1) cap (a % (n1 + 1)) q _ _ hss (by omega) HK.out (by omega) (by omega) (by
    rw [List.take_set_of_le (Nat.le_refl _), List.drop_set_of_lt (by omega)]
    intro s hs
    rcases List.mem_append.1 hs with hs | hs
    · exact hal s (List.mem_of_mem_take hs)
    · exact hal s (List.mem_of_mem_drop hs))
  rw [again_is q (a % (n1 + 1)) l o (by rw [L1.out]; have := HK.out; omega) HS.out, ← WAS.out, show ((a % (n1 + 1) : Nat) : Int) = (a : Int) % ((n1 : Int) + 1) from by simp] at hag
  have HG := Lib.hid hag
  have W5 := Lib.hid hw5
  clear hag hw5 hown5 e5 hss hal
  refine HG.out.mono ?_
  rintro e w6 ⟨rfl, hb6⟩
  have W6 := Lib.hid (W5.out.trans (hb6.mono W5.out.size))
  clear hb6
  go_wp2_with fail
  refine (HR.out _ w6 W6.out).mono ?_
  rintro e w7 ⟨rfl, hb7⟩
  have hdd : decide (xorS q l = ⟨(xorL q l).toArray⟩) = true := decide_eq_true rfl
  rw [hdd]
  clear hdd
  go_wp2_with fail
  go_ret
  exact ⟨rfl, W6.out.trans (hb7.mono W6.out.size)⟩

theorem againL_any (a1 : Option Addr) (n1 c1 : Nat) (l : List ByteArray) (a : Int) (o : ByteArray) (w : World) (h1 : SSl w a1 n1 c1 l) (ha : 0 ≤ a ∧ a ≤ 255) (_ : o.size ≤ 9223372036854775807) :
    Calls Try.prog 4 #[.slice a1 n1 c1, .int .u8 a, .string o] w fun e w' => e = .returned (.bool true) ∧ Below w.heap.size w w' := by
  by_cases h : fewB l = false ∨ n1 = 0 ∨ evenL l = false
  · exact againL_short a1 n1 c1 l a o w h1 h
  · simp only [not_or, Bool.not_eq_false] at h
    obtain ⟨k, rfl⟩ := Int.eq_ofNat_of_zero_le ha.1
    exact againL_long a1 n1 c1 l k o w h1 (by omega) h.1 (by omega) h.2.2
end Go.Proofs.Ytmnhdpojonlfhaa
