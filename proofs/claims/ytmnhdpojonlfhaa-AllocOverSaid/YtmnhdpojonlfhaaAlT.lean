/- The plain law of one and Get: what is found, and what a fresh book gives. -/
import Derived.Test.YtmnhdpojonlfhaaAlG
namespace Go.Proofs.Ytmnhdpojonlfhaa
open Go.RowKit

theorem ord_ok (sn : SN) (last : Int) (n : Nat) : Once n n (ordA sn last n) ∧ SortedTo (cmpA sn last) (ordA sn last n) n := by
  have hsw : ∀ m, Swo m (cmpA sn last) := fun m => cmpS_swo (mkM sn) last m
  let le : Nat → Nat → Bool := fun x y => !decide (cmpA sn last y x < 0)
  have htr : ∀ a b c : Nat, le a b = true → le b c = true → le a c = true := by
    intro a b c h1 h2
    simp only [le, Bool.not_eq_true', decide_eq_false_iff_not] at *
    exact (hsw (a + b + c + 1)).ntrans c b a (by omega) (by omega) (by omega) h2 h1
  have hto : ∀ a b : Nat, (le a b || le b a) = true := by
    intro a b
    simp only [le, Bool.or_eq_true, Bool.not_eq_true', decide_eq_false_iff_not]
    by_cases h : cmpA sn last b a < 0
    · exact .inr ((hsw (a + b + 1)).asymm b a (by omega) (by omega) h)
    · exact .inl h
  have hp := List.pairwise_mergeSort htr hto (List.range n)
  have hperm := List.mergeSort_perm (List.range n) le
  generalize (List.range n).mergeSort le = l at hp hperm
  have hl : l.length = n := by rw [hperm.length_eq, List.length_range]
  have hnd : l.Nodup := hperm.nodup_iff.2 List.nodup_range
  have hmem : ∀ x, x ∈ l ↔ x < n := fun x => by rw [hperm.mem_iff, List.mem_range]
  have hget : ∀ i (h : i < l.length), l.getD i 0 = l[i] := fun i h => by rw [List.getD_eq_getElem?_getD, List.getElem?_eq_getElem h]; rfl
  have ho : Once n n (fun i => l.getD i 0) := by
    refine ⟨fun i hi => ?_, fun i j hi hj he => ?_, fun y hy => ?_⟩
    · show l.getD i 0 < n
      rw [hget i (by omega)]
      exact (hmem _).1 (List.getElem_mem _)
    · have he : l.getD i 0 = l.getD j 0 := he
      rw [hget i (by omega), hget j (by omega)] at he
      have hpw := List.pairwise_iff_getElem.1 (List.nodup_iff_pairwise_ne.1 hnd)
      rcases Nat.lt_trichotomy i j with h | h | h
      · exact absurd he (hpw i j (by omega) (by omega) h)
      · exact h
      · exact absurd he.symm (hpw j i (by omega) (by omega) h)
    · obtain ⟨i, hi, rfl⟩ := List.mem_iff_getElem.1 ((hmem y).2 hy)
      exact ⟨i, by omega, hget i hi⟩
  have hs : SortedTo (cmpA sn last) (fun i => l.getD i 0) n := by
    intro p q hpq hq
    show ¬ cmpA sn last (l.getD q 0) (l.getD p 0) < 0
    rw [hget p (by omega), hget q (by omega)]
    have := List.pairwise_iff_getElem.1 hp p q (by omega) (by omega) hpq
    simpa [le] using this
  exact ⟨(ordA_is ho hs).1, (ordA_is ho hs).2.1⟩

theorem least_of (P : Nat → Prop) (i : Nat) (h : P i) : ∃ j, P j ∧ ∀ k, k < j → ¬ P k := by
  induction i using Nat.strongRecOn with
  | _ i ih =>
    by_cases hk : ∃ k, k < i ∧ P k
    · obtain ⟨k, h1, h2⟩ := hk
      exact ih k h1 h2
    · exact ⟨i, h, fun k h1 h2 => hk ⟨k, h1, h2⟩⟩
theorem oneA_spec (gs : Gs) (secs : Int) (sn : SN) (es : List Nat) (size last : Int) :
    (oneA gs secs sn es size last = none ∧ ∀ g, g < gs.length → findA gs secs sn es size g = none) ∨
    ∃ x, oneA gs secs sn es size last = some x ∧ x.1 < gs.length ∧ findA gs secs sn es size x.1 = some x.2 ∧ ∀ g, g < gs.length → cmpA sn last g x.1 < 0 → findA gs secs sn es size g = none := by
  obtain ⟨ho, hs⟩ := ord_ok sn last gs.length
  by_cases h : ∃ i, i < gs.length ∧ findA gs secs sn es size (ordA sn last gs.length i) ≠ none
  · obtain ⟨i, ⟨hi, hne⟩, hmin⟩ : ∃ i, (i < gs.length ∧ findA gs secs sn es size (ordA sn last gs.length i) ≠ none) ∧ ∀ j, j < i → ¬ (j < gs.length ∧ findA gs secs sn es size (ordA sn last gs.length j) ≠ none) := by
      obtain ⟨i, hi⟩ := h
      exact least_of _ i hi
    obtain ⟨a, ha⟩ := Option.ne_none_iff_exists'.1 hne
    have hnone : ∀ j, j < i → findA gs secs sn es size (ordA sn last gs.length j) = none := fun j hj => by
      have := hmin j hj
      by_cases e : findA gs secs sn es size (ordA sn last gs.length j) = none
      · exact e
      · exact absurd ⟨by omega, e⟩ this
    refine .inr ⟨(ordA sn last gs.length i, a), findSome_first _ i _ hi (fun j hj => by rw [hnone j hj]; rfl) (by rw [ha]; rfl), ho.lt i hi, ha, fun g hg hc => ?_⟩
    obtain ⟨j, hj, rfl⟩ := ho.surj g hg
    rcases Nat.lt_trichotomy j i with h1 | h1 | h1
    · exact hnone j h1
    · subst h1
      exact absurd hc (fun h => (cmpS_swo (mkM sn) last (ordA sn last gs.length j + 1)).asymm _ _ (by omega) (by omega) h h)
    · exact absurd hc (hs i j h1 hj)
  · refine .inl ⟨findSome_none _ fun j hj => ?_, fun g hg => ?_⟩
    · have : findA gs secs sn es size (ordA sn last gs.length j) = none := by
        by_cases e : findA gs secs sn es size (ordA sn last gs.length j) = none
        · exact e
        · exact absurd ⟨j, hj, e⟩ h
      rw [this]; rfl
    · obtain ⟨j, hj, rfl⟩ := ho.surj g hg
      by_cases e : findA gs secs sn es size (ordA sn last gs.length j) = none
      · exact e
      · exact absurd ⟨j, hj, e⟩ h

/-- a book's state that is whole -/
structure Inv (gs : Gs) (secs : Int) (sn : SN) (es : List Nat) : Prop where
  right : rightB gs secs = true
  slen : sn.length = gs.length
  elen : es.length = gs.length
  size : ∀ i, i < gs.length → (sn.getD i sD).1 = (sect (gs.getD i (0, 0)) secs).toNat
  good : ∀ i, i < gs.length → Good (sn.getD i sD).1 (sn.getD i sD).2
  ends : ∀ i, i < gs.length → es.getD i 0 ≤ (sn.getD i sD).1
/-- what a block takes, as a natural number -/
theorem takes_nat {gs : Gs} {secs : Int} (h : rightB gs secs = true) {i : Nat} (hi : i < gs.length) {size : Int} (h1 : 1 ≤ size) (h2 : size ≤ 4) : ∃ t : Nat, takesI gs secs i size = (t : Nat) ∧ 1 ≤ t ∧ t ≤ 6 ∧ t ≤ (sect (gs.getD i (0, 0)) secs).toNat := by
  have hr := rightB_spec h
  have hg := getD_right h hi
  have hb := takes_bd hg h1 h2
  have hs := sect_bd hg hr.2.2.1 hr.2.2.2.1
  refine ⟨(takes (gs.getD i (0, 0)) size).toNat, ?_, by omega, by omega, by omega⟩
  unfold takesI
  rw [if_pos ⟨hasB_mk h (by omega) (by omega), h1, h2⟩, Int.toNat_natCast]
  omega
section
variable {gs : Gs} {secs : Int} {sn : SN} {es : List Nat}
/-- what is found is taken -/
theorem Inv.put (h : Inv gs secs sn es) {size : Int} (h1 : 1 ≤ size) (h2 : size ≤ 4) {x : Nat × Nat} (hx : x.1 < gs.length) (hf : findA gs secs sn es size x.1 = some x.2) : Inv gs secs (putS gs secs sn size x) (putE gs secs es size x) := by
  obtain ⟨t, ht, t1, t6, ts⟩ := takes_nat h.right hx h1 h2
  unfold findA at hf
  rw [ht] at hf
  obtain ⟨_, hq, _⟩ := findS_some (h.good _ hx) t1 hf
  have hgs : ∀ i, (putS gs secs sn size x).getD i sD = if i = x.1 then ((sn.getD x.1 sD).1, (takeS (sn.getD x.1 sD).1 (sn.getD x.1 sD).2 (x.2 : Nat) (t : Nat)).2) else sn.getD i sD := by
    intro i
    unfold putS
    rw [ht]
    by_cases e : i = x.1
    · rw [if_pos e, e, getD_set_same _ _ _ _ (by rw [h.slen]; exact hx)]
    · rw [if_neg e, getD_set_other _ _ _ _ _ (fun e' => e e'.symm)]
  have hge : ∀ i, (putE gs secs es size x).getD i 0 = if i = x.1 then x.2 + t else es.getD i 0 := by
    intro i
    unfold putE
    rw [ht, Int.toNat_natCast]
    by_cases e : i = x.1
    · rw [if_pos e, e, getD_set_same _ _ _ _ (by rw [h.elen]; exact hx)]
    · rw [if_neg e, getD_set_other _ _ _ _ _ (fun e' => e e'.symm)]
  refine ⟨h.right, by simp [putS, h.slen], by simp [putE, h.elen], fun i hi => ?_, fun i hi => ?_, fun i hi => ?_⟩
  · rw [hgs]
    split
    · rename_i e; subst e; exact h.size _ hi
    · exact h.size i hi
  · rw [hgs]
    split
    · exact takeS_good (h.good _ hx) _ _
    · exact h.good i hi
  · rw [hgs, hge]
    split
    · exact hq
    · exact h.ends i hi
theorem Inv.get (h : Inv gs secs sn es) (size : Int) (two : Bool) : Inv gs secs (getA gs secs sn es size two).sn (getA gs secs sn es size two).es := by
  unfold getA
  by_cases hs : 1 ≤ size ∧ size ≤ 4
  · rw [if_pos hs]
    rcases oneA_spec gs secs sn es size (-1) with ⟨h0, _⟩ | ⟨x, h0, hx, hf, _⟩
    · rw [h0]; exact h
    · rw [h0]
      have h1 := h.put hs.1 hs.2 hx hf
      dsimp only
      split
      · rcases oneA_spec gs secs (putS gs secs sn size x) (putE gs secs es size x) size (x.1 : Nat) with ⟨h2, _⟩ | ⟨y, h2, hy, hg, _⟩
        · rw [h2]; exact h
        · rw [h2]; exact h1.put hs.1 hs.2 hy hg
      · exact h1
  · rw [if_neg hs]; exact h
/-- a fresh book's state -/
theorem Inv.fresh (hr : rightB gs secs = true) (hl : sn.length = gs.length) (hs : ∀ j, j < gs.length → sn.getD j sD = ((sect (gs.getD j (0, 0)) secs).toNat, [])) : Inv gs secs sn (List.replicate gs.length 0) := by
  refine ⟨hr, hl, by simp, fun i hi => by rw [hs i hi], fun i hi => ?_, fun i hi => ?_⟩
  · rw [hs i hi]; exact ⟨by simp, List.Pairwise.nil⟩
  · simp [List.getD, hi]
/-- all that is free holds a block -/
theorem find_fresh (h : Inv gs secs sn es) {size : Int} (h1 : 1 ≤ size) (h2 : size ≤ 4) {g : Nat} (hg : g < gs.length) (hn : (sn.getD g sD).2 = []) : findA gs secs sn es size g ≠ none := by
  intro e
  obtain ⟨t, ht, t1, t6, ts⟩ := takes_nat h.right hg h1 h2
  unfold findA at e
  rw [ht] at e
  obtain ⟨x, _, _, r, hr, _⟩ := findS_none (h.good g hg) t1 (h.ends g hg) e 0 (by rw [h.size g hg]; omega)
  rw [hn] at hr
  simp at hr
/-- two places of a fresh book -/
theorem two_law (hr : rightB gs secs = true) (hl : sn.length = gs.length) (hs : ∀ j, j < gs.length → sn.getD j sD = ((sect (gs.getD j (0, 0)) secs).toNat, [])) (size : Int) (he : (getA gs secs sn (List.replicate gs.length 0) size true).err = 0) :
    (gs.length = 1 → (getA gs secs sn (List.replicate gs.length 0) size true).p ≠ (getA gs secs sn (List.replicate gs.length 0) size true).q) ∧
    (1 < gs.length → (getA gs secs sn (List.replicate gs.length 0) size true).p.1 ≠ (getA gs secs sn (List.replicate gs.length 0) size true).q.1) := by
  have hi := Inv.fresh hr hl hs
  generalize List.replicate gs.length 0 = es at *
  by_cases hsz : 1 ≤ size ∧ size ≤ 4
  · rcases oneA_spec gs secs sn es size (-1) with ⟨h0, _⟩ | ⟨x, h0, hx, hf, _⟩
    · have hg : getA gs secs sn es size true = ⟨(0, 0), (0, 0), 8, sn, es⟩ := by unfold getA; rw [if_pos hsz, h0]
      rw [hg] at he; simp at he
    · have hi1 := hi.put hsz.1 hsz.2 hx hf
      rcases oneA_spec gs secs (putS gs secs sn size x) (putE gs secs es size x) size (x.1 : Nat) with ⟨h2, _⟩ | ⟨y, h2, hy, hg, hfirst⟩
      · have hg : getA gs secs sn es size true = ⟨(0, 0), (0, 0), 8, sn, es⟩ := by unfold getA; rw [if_pos hsz, h0]; dsimp only; rw [if_pos rfl, h2]
        rw [hg] at he; simp at he
      · have hgt : getA gs secs sn es size true = ⟨x, y, 0, putS gs secs (putS gs secs sn size x) size y, putE gs secs (putE gs secs es size x) size y⟩ := by unfold getA; rw [if_pos hsz, h0]; dsimp only; rw [if_pos rfl, h2]
        rw [hgt]
        dsimp only
        constructor
        · intro _ e
          subst e
          obtain ⟨t, ht, t1, t6, ts⟩ := takes_nat hr hx hsz.1 hsz.2
          unfold findA at hf hg
          rw [ht] at hf hg
          have hput : (putS gs secs sn size x).getD x.1 sD = ((sn.getD x.1 sD).1, (takeS (sn.getD x.1 sD).1 (sn.getD x.1 sD).2 (x.2 : Nat) (t : Nat)).2) := by
            unfold putS
            rw [ht, getD_set_same _ _ _ _ (by rw [hl]; exact hx)]
          rw [hput] at hg
          obtain ⟨_, a2, a3⟩ := findS_some (hi.good _ hx) t1 hf
          obtain ⟨_, _, b3⟩ := findS_some (takeS_good (hi.good _ hx) _ _) t1 hg
          rcases takeS_spec (hi.good _ hx) (x.2 : Int) (t : Int) with ⟨hm, e⟩ | ⟨_, ⟨z, z1, z2, z3⟩, e⟩ | ⟨hm, hno, e0, hus, hsum⟩
          · exact hm ⟨by omega, by omega, by omega, by omega⟩
          · exact a3 z (by omega) (by omega) z3
          · exact b3 x.2 (by omega) (by omega) ((hus x.2).2 (.inr ⟨by omega, by omega⟩))
        · intro hn e
          obtain ⟨z, hz, hzx⟩ : ∃ z, z < gs.length ∧ z ≠ x.1 := by
            by_cases h : x.1 = 0
            · exact ⟨1, hn, by omega⟩
            · exact ⟨0, by omega, by omega⟩
          have hz2 : (putS gs secs sn size x).getD z sD = sn.getD z sD := by unfold putS; rw [getD_set_other _ _ _ _ _ (fun e => hzx e.symm)]
          refine find_fresh hi1 hsz.1 hsz.2 hz (by rw [hz2, hs z hz]) (hfirst z hz ?_)
          unfold cmpA
          rw [cmpS_neg]
          exact .inl ⟨by omega, by omega⟩
  · have hg : getA gs secs sn es size true = ⟨(0, 0), (0, 0), 1, sn, es⟩ := by unfold getA; rw [if_neg hsz]
    rw [hg] at he; simp at he
end
end Go.Proofs.Ytmnhdpojonlfhaa
