/- The walks of the library's functions at runs: Clone, Grow, Concat. -/
import Derived.Test.YtmnhdpojonlfhaaSpJ
import Derived.Lib.SliceRun
import Derived.Lib.AppendZerosOnto
namespace Go.Proofs.Ytmnhdpojonlfhaa
open Go.RowKit

set_option maxRecDepth 100000 in
theorem cloneR_any (ao : Option Addr) (n cap : Nat) (cs : List Value) (w : World) (h : RSl w 2 ao n cap cs) (h1 : ∀ u ∈ cs, u.oneCell' = true) (hm : n ≤ 1000000000) :
    Calls Try.prog 75 #[.slice ao n cap] w fun e w' => ∃ v, e = .returned v ∧ w'.ownsRow w.heap.size 44 2 v n cs ∧ Below w.heap.size w w' := by
  obtain ⟨i0, hi, hi0, hi1, hi2⟩ := info_parts infoR
  have he := fun (W : World) => Lib.run_eql_slice_nil (P := Try.prog) W 41 44 ao n cap 0 0 Try.underlying41
  cases ao with
  | none =>
    have hc : cap = 0 := h.2.2.2.1 rfl
    have hn : n = 0 := by have := h.2.1; omega
    subst hn
    subst hc
    have hcs : cs = [] := List.eq_nil_of_length_eq_zero (by have := h.1; simpa using this)
    subst hcs
    simp only [Option.isNone_none] at he
    clear h h1
    go_enter Try.func75, Try.ntmps75
    go_wp2_with fail
    go_ret
    exact ⟨_, rfl, World.ownsRow_nil _ _ _ _, Below.refl _ _⟩
  | some ad =>
    simp only [Option.isNone_some] at he
    have hmade := World.ownsRow_made (base := w.heap.size) (e := 44) (size := 2) w #[] 0 (Nat.le_refl _) (by unfold maxLen; omega) rfl
    have H := Lib.hid h
    have HN := Lib.hid (RSl.news (h.below ((Below.refl _ _).alloc (Nat.le_refl _) (.cells #[] 44))))
    have H1 := Lib.hid h1
    clear h h1
    go_enter Try.func75, Try.ntmps75
    go_wp2_with (at_builtin; refine wpList_append_own _ rfl (.tmp 5) (.tmp 6) 41 rfl w.heap.size 44 i0 (.agg #[.int .i64 0, .int .i64 0]) 2 16 Try.underlying41 hi hi0 hi1 hi2 rfl (by decide) (.slice (some ⟨w.heap.size, 0, none⟩) 0 0) 0 [] rfl hmade ad n cap cs rfl (by rw [H.out.1]) HN.out H1.out (by unfold maxLen; omega) (by omega) (by simp) ?_; intro v1 w1 hown1 hgrow1 _; simp only [Nat.zero_add, List.nil_append] at hown1)
    go_ret
    exact ⟨_, rfl, hown1, below_own ((Below.refl _ _).alloc (Nat.le_refl _) _) hmade hgrow1 (by simp) (Nat.le_refl _)⟩

set_option maxRecDepth 100000 in
theorem growR_nil (n : Nat) (w : World) (hm : n ≤ 100000000) :
    Calls Try.prog 105 #[.slice none 0 0, .int .i64 n] w fun e w' => ∃ v, e = .returned v ∧ w'.ownsRow w.heap.size 44 2 v 0 [] ∧ Below w.heap.size w w' := by
  obtain ⟨i0, hi, hi0, hi1, hi2⟩ := info_parts infoR
  by_cases hn : n = 0
  · subst hn
    go_enter Try.func105, Try.ntmps105
    go_wp2_with fail
    go_ret
    exact ⟨_, rfl, World.ownsRow_nil _ _ _ _, Below.refl _ _⟩
  · have hold : (Builtin.firstCells i0.size 0 (.slice none 0 0)).run Try.prog w.drew = .ok ([] : List Value).toArray w.drew := run_firstCells_none w.drew i0.size 0 0 0
    have hnx : Builtin.nextslicecap (0 + n) 0 = n := by unfold Builtin.nextslicecap; rw [if_pos (by omega)]; omega
    have hrz := fun ty => Lib.run_append_grow_zeros (P := Try.prog) w 41 3 ty 44 i0 (.agg #[.int .i64 0, .int .i64 0]) .i64 .i64 Try.underlying41 Try.underlying3 hi hi0 none 0 0 [] hold n (by omega) (by omega) (by omega) (by omega) (by rw [hi2]; omega) (by rw [hnx, hi2]; omega)
    obtain ⟨c, hc⟩ : ∃ c, c = grownCap w (0 + n) 0 44 := ⟨_, rfl⟩
    have hge : n ≤ c := by have := grownCap_ge w (0 + n) 0 44; omega
    have hcm : c ≤ maxLen := by rw [hc]; exact grownCap_le_maxLen w (0 + n) 0 44 (by unfold maxLen; omega)
    rw [← hc] at hrz
    simp only [Nat.zero_add] at hrz
    obtain ⟨cs, hcs⟩ : ∃ cs, cs = ([] : List Value).toArray ++ Builtin.zeroCells (.agg #[.int .i64 0, .int .i64 0] : Value).cells n ++ Builtin.zeroCells (.agg #[.int .i64 0, .int .i64 0] : Value).cells (c - n) := ⟨_, rfl⟩
    have hsz : cs.size = c * 2 := by
      rw [hcs]
      simp only [Array.size_append, size_zeroCells]
      rw [show (.agg #[.int .i64 0, .int .i64 0] : Value).cells.size = 2 from rfl]
      simp only [List.size_toArray, List.length_nil]
      omega
    rw [← hcs] at hrz
    have hrz' : ∀ ty, (Builtin.append_ #[41, 3] ty #[.slice none 0 0, .int .i64 n]).run Try.prog w = .ok (.slice (some ⟨w.heap.size, 0, none⟩) n c) (w.drew.alloc (.cells cs 44)) := fun ty => hrz ty
    have HRZ := Lib.hid hrz'
    have hmade := World.ownsRow_made (base := w.heap.size) (e := 44) (size := 2) w.drew cs c (Nat.le_refl _) hcm hsz
    have HM := Lib.hid hmade
    have hpos : 0 < n := by omega
    have hcm' : c ≤ 9223372036854775807 := by unfold maxLen at hcm; omega
    clear hc hcs hsz hnx hold hrz hrz' hmade hn hcm
    go_enter Try.func105, Try.ntmps105
    go_wp2_with (at_builtin; go_must (refine wpList_append_run rfl (.tmp 20) (.tmp 21) 41 3 rfl (.slice none 0 0) (.int .i64 n) _ _ rfl rfl HRZ.out ?_))
    go_ret
    exact ⟨_, rfl, HM.out, ((Below.refl _ _).drew).alloc (Nat.le_refl _) _⟩

/-- slices, as values of a slice of them -/
def encP (ps : List (Option Addr × Nat × Nat × List Value)) : List Value := ps.map fun p => .slice p.1 p.2.1 p.2.2.1
def sumN (ps : List (Option Addr × Nat × Nat × List Value)) : Nat := (ps.map fun p => p.2.1).sum
def catC (ps : List (Option Addr × Nat × Nat × List Value)) : List Value := ps.flatMap fun p => p.2.2.2
def dflt : Option Addr × Nat × Nat × List Value := (none, 0, 0, [])
theorem encP_get (ps : List (Option Addr × Nat × Nat × List Value)) (k : Nat) (h : k < ps.length) : (encP ps)[k]? = some (.slice (ps.getD k dflt).1 (ps.getD k dflt).2.1 (ps.getD k dflt).2.2.1) := by simp [encP, h]
theorem sumN_step (ps : List (Option Addr × Nat × Nat × List Value)) (k : Nat) (h : k < ps.length) : sumN (ps.take (k + 1)) = sumN (ps.take k) + (ps.getD k dflt).2.1 := by
  rw [List.take_succ_eq_append_getElem h, List.getD_eq_getElem?_getD, List.getElem?_eq_getElem h]
  unfold sumN
  rw [List.map_append, List.sum_append]
  rfl
theorem catC_step (ps : List (Option Addr × Nat × Nat × List Value)) (k : Nat) (h : k < ps.length) : catC (ps.take (k + 1)) = catC (ps.take k) ++ (ps.getD k dflt).2.2.2 := by
  rw [List.take_succ_eq_append_getElem h, List.getD_eq_getElem?_getD, List.getElem?_eq_getElem h]
  unfold catC
  rw [List.flatMap_append]
  simp only [List.flatMap_cons, List.flatMap_nil, List.append_nil]
  rfl
theorem sumN_le (ps : List (Option Addr × Nat × Nat × List Value)) (k : Nat) : sumN (ps.take k) ≤ sumN ps := by
  conv => rhs; rw [← List.take_append_drop k ps]
  unfold sumN
  rw [List.map_append, List.sum_append]
  exact Nat.le_add_right _ _

set_option maxHeartbeats 800000 in
set_option maxRecDepth 100000 in
theorem concatR_any (ao : Option Addr) (n cap : Nat) (ps : List (Option Addr × Nat × Nat × List Value)) (w : World) (h : RSl w 1 ao n cap (encP ps)) (hm : n ≤ 1000000) (ht : sumN ps ≤ 1000000)
    (hps : ∀ p ∈ ps, RSl w 2 p.1 p.2.1 p.2.2.1 p.2.2.2 ∧ ∀ u ∈ p.2.2.2, u.oneCell' = true) :
    Calls Try.prog 74 #[.slice ao n cap] w fun e w' => ∃ v, e = .returned v ∧ w'.ownsRow w.heap.size 44 2 v (sumN ps) (catC ps) ∧ Below w.heap.size w w' := by
  obtain ⟨i0, hi, hz0, hz1, hz2⟩ := info_parts infoR
  have hlen : ps.length = n := by have := h.1; simpa [encP] using this
  have HL := Lib.hid hlen
  have HSL := Lib.hid h
  have HP := Lib.hid hps
  have hgr := Lib.hid fun (m : Nat) (hm : m ≤ 1000000) (W : World) => growR_nil m W (by omega)
  clear hlen h hps
  go_enter Try.func74, Try.ntmps74
  go_wp2_with fail
  go_loop [3, 11] (fun t i => ∃ k : Nat, k ≤ n ∧ i = .int .i64 k ∧ t = .int .i64 (sumN (ps.take k))) (fun _ i => n - (intOf i).toNat)
  case atStart => exact ⟨0, by omega, rfl, rfl⟩
  case round =>
    obtain ⟨k, hk, rfl, rfl⟩ := hrel
    by_cases hkn : k < n
    · obtain ⟨b, off, rfl, hb, hc⟩ := HSL.out.2.2.2.2 (by omega)
      obtain ⟨p, hp⟩ : ∃ p, p = ps.getD k dflt := ⟨_, rfl⟩
      obtain ⟨a0, m0, q0, cs0⟩ := p
      have hcx : w.cell? ⟨b, off + k, none⟩ = some (.slice a0 m0 q0) := by rw [hc k (by omega), encP_get ps k (by rw [HL.out]; exact hkn), ← hp]
      have hst := sumN_step ps k (by rw [HL.out]; exact hkn)
      rw [← hp] at hst
      dsimp only at hst
      have hle := sumN_le ps (k + 1)
      have hbd : sumN (ps.take k) + m0 ≤ 1000000 := by rw [hst] at hle; omega
      have HST := Lib.hid hst
      have HPP := Lib.hid hp
      clear hc hst hp hle
      go_wp2_with fail
      go_round
      case rel => exact ⟨k + 1, by omega, by go_num, by rw [HST.out]; go_num⟩
      case measure => simp [intOf]; omega
    · have hkn' : k = n := by omega
      subst hkn'
      have hall : ps.take k = ps := List.take_of_length_le (by rw [HL.out]; exact Nat.le_refl _)
      rw [hall]
      have HALL := Lib.hid hall
      clear hall
      go_wp2_with fail
      refine (hgr.out _ ht w).mono ?_
      rintro e w1 ⟨v1, rfl, hown1, hb1⟩
      go_wp2_with fail
      go_loopw [6, 27] (fun v i wr => ∃ j : Nat, j ≤ k ∧ i = .int .i64 j ∧ wr.ownsRow w.heap.size 44 2 v (sumN (ps.take j)) (catC (ps.take j)) ∧ Below w.heap.size w wr) (fun _ i _ => k - (intOf i).toNat)
      case atStart => exact ⟨0, by omega, rfl, hown1, hb1⟩
      case round =>
        obtain ⟨j, hj, rfl, hown, hbel⟩ := hrel
        clear hown1 hb1
        by_cases hjn : j < k
        · obtain ⟨b, off, rfl, hb, hc⟩ := HSL.out.2.2.2.2 (by omega)
          obtain ⟨p, hp⟩ : ∃ p, p = ps.getD j dflt := ⟨_, rfl⟩
          have hpr := HP.out p (by rw [hp, List.getD_eq_getElem?_getD, List.getElem?_eq_getElem (by rw [HL.out]; exact hjn)]; exact List.getElem_mem _)
          obtain ⟨a0, m0, q0, cs0⟩ := p
          dsimp only at hpr
          have hcx : wr.cell? ⟨b, off + j, none⟩ = some (.slice a0 m0 q0) := by rw [hbel.cell (p := ⟨b, _, none⟩) hb, hc j (by omega), encP_get ps j (by rw [HL.out]; exact hjn), ← hp]
          have hst := sumN_step ps j (by rw [HL.out]; exact hjn)
          have hst2 := catC_step ps j (by rw [HL.out]; exact hjn)
          rw [← hp] at hst hst2
          dsimp only at hst hst2
          have hle := sumN_le ps (j + 1)
          have hbd : sumN (ps.take j) + m0 ≤ 1000000 := by rw [hst] at hle; omega
          have HST := Lib.hid hst
          have HST2 := Lib.hid hst2
          have HPR := Lib.hid hpr
          have HO := Lib.hid hown
          clear hc hst hst2 hp hle hpr hown
          go_wp2_with (at_builtin; go_must (refine wpList_append_rsl rfl (.tmp 31) (.tmp 32) 41 rfl w.heap.size 44 i0 (.agg #[.int .i64 0, .int .i64 0]) 2 16 Try.underlying41 hi hz0 hz1 hz2 rfl (by decide) _ _ _ rfl HO.out a0 m0 q0 cs0 rfl (HPR.out.1.below hbel) HPR.out.2 (by unfold maxLen; omega) (by omega) hbel.size ?_; intro v2 w2 hown2 hgrow2))
          go_roundw
          case rel => exact ⟨j + 1, by omega, by go_num, by rw [HST.out, HST2.out]; exact hown2, below_own hbel HO.out hgrow2 hbel.size (Nat.le_refl _)⟩
          case measure => simp [intOf]; omega
        · have hjn' : j = k := by omega
          subst hjn'
          rw [HALL.out] at hown
          go_wp2_with fail
          go_ret
          exact ⟨_, rfl, hown, hbel⟩


end Go.Proofs.Ytmnhdpojonlfhaa
