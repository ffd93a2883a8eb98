/- The order of blocks, plain: what the stable sort and the compaction leave. -/
import Derived.Test.YtbkknpodipapoaaVsE
import Derived.Test.YtbkknpodipapoaaVsS
namespace Go.Proofs.Ytbkknpodipapoaa

/-- one block is put among others that are in order; of equal marks it takes the place -/
def insO (p : PtrT) : List PtrT → List PtrT
  | [] => [p]
  | q :: r => if ltM (markOf p) (markOf q) then p :: q :: r else if markOf p = markOf q then p :: r else q :: insO p r
/-- the blocks in order -/
def ordL (l : List PtrT) : List PtrT := l.foldr insO []
/-- the first block with a mark -/
def firstM (l : List PtrT) (m : MarkT) : Option PtrT := l.find? fun q => decide (markOf q = m)
structure IsOrd (l L : List PtrT) : Prop where
  sorted : L.Pairwise fun p q => ltM (markOf p) (markOf q)
  first : ∀ p ∈ L, firstM l (markOf p) = some p
  all : ∀ q ∈ l, ∃ p ∈ L, markOf p = markOf q
theorem firstM_cons (q : PtrT) (l : List PtrT) (m : MarkT) : firstM (q :: l) m = if markOf q = m then some q else firstM l m := by
  unfold firstM
  rw [List.find?_cons]
  by_cases h : markOf q = m
  · simp [h]
  · simp [h]
theorem firstM_mem {l : List PtrT} {m : MarkT} {p : PtrT} (h : firstM l m = some p) : p ∈ l ∧ markOf p = m := ⟨List.mem_of_find?_eq_some h, by have := List.find?_some h; simpa using this⟩
theorem insO_mem {p q : PtrT} : ∀ {L : List PtrT}, q ∈ insO p L → q = p ∨ q ∈ L
  | [], h => by simpa [insO] using h
  | a :: r, h => by
    unfold insO at h
    split at h
    · rcases List.mem_cons.1 h with h | h
      · exact .inl h
      · exact .inr h
    · split at h
      · rcases List.mem_cons.1 h with h | h
        · exact .inl h
        · exact .inr (List.mem_cons_of_mem _ h)
      · rcases List.mem_cons.1 h with h | h
        · exact .inr (by rw [h]; exact List.mem_cons_self)
        · rcases insO_mem h with h | h
          · exact .inl h
          · exact .inr (List.mem_cons_of_mem _ h)
theorem insO_self (p : PtrT) : ∀ L : List PtrT, p ∈ insO p L
  | [] => by simp [insO]
  | a :: r => by
    unfold insO
    split
    · simp
    · split
      · simp
      · exact List.mem_cons_of_mem _ (insO_self p r)
theorem insO_sorted (p : PtrT) : ∀ {L : List PtrT}, L.Pairwise (fun p q => ltM (markOf p) (markOf q)) → (insO p L).Pairwise (fun p q => ltM (markOf p) (markOf q)) ∧ (∀ q ∈ L, markOf q ≠ markOf p → q ∈ insO p L) ∧ ∀ q ∈ insO p L, markOf q = markOf p → q = p
  | [], _ => by simp [insO]
  | a :: r, h => by
    have h1 := List.pairwise_cons.1 h
    unfold insO
    split
    · rename_i hlt
      refine ⟨List.pairwise_cons.2 ⟨fun q hq => ?_, h⟩, fun q hq _ => List.mem_cons_of_mem _ hq, fun q hq he => ?_⟩
      · rcases List.mem_cons.1 hq with rfl | hq
        · exact hlt
        · exact ltM_trans hlt (h1.1 q hq)
      · rcases List.mem_cons.1 hq with h2 | hq
        · exact h2
        · exfalso
          rcases List.mem_cons.1 hq with rfl | hq
          · rw [he] at hlt; exact ltM_irrefl _ hlt
          · have := ltM_trans hlt (h1.1 q hq)
            rw [he] at this
            exact ltM_irrefl _ this
    · split
      · rename_i hne heq
        refine ⟨List.pairwise_cons.2 ⟨fun q hq => by rw [heq]; exact h1.1 q hq, h1.2⟩, fun q hq hn => ?_, fun q hq he => ?_⟩
        · rcases List.mem_cons.1 hq with rfl | hq
          · exact absurd heq.symm hn
          · exact List.mem_cons_of_mem _ hq
        · rcases List.mem_cons.1 hq with h2 | hq
          · exact h2
          · have := h1.1 q hq
            rw [he, heq] at this
            exact absurd this (ltM_irrefl _)
      · rename_i hnl hne
        have hal : ltM (markOf a) (markOf p) := (ltM_total hne).resolve_left hnl
        obtain ⟨i1, i2, i3⟩ := insO_sorted p h1.2
        refine ⟨List.pairwise_cons.2 ⟨fun q hq => ?_, i1⟩, fun q hq hn => ?_, fun q hq he => ?_⟩
        · rcases insO_mem hq with rfl | hq
          · exact hal
          · exact h1.1 q hq
        · rcases List.mem_cons.1 hq with rfl | hq
          · exact List.mem_cons_self
          · exact List.mem_cons_of_mem _ (i2 q hq hn)
        · rcases List.mem_cons.1 hq with h2 | hq
          · rw [h2] at he; exact absurd he.symm hne
          · exact i3 q hq he
theorem ordL_is : ∀ l : List PtrT, IsOrd l (ordL l)
  | [] => ⟨List.Pairwise.nil, by simp [ordL], by simp⟩
  | p :: l => by
    have ih := ordL_is l
    obtain ⟨i1, i2, i3⟩ := insO_sorted p ih.sorted
    refine ⟨i1, fun q hq => ?_, fun q hq => ?_⟩
    · rw [firstM_cons]
      by_cases e : markOf q = markOf p
      · rw [if_pos e.symm, i3 q hq e]
      · rw [if_neg (fun h => e h.symm)]
        rcases insO_mem hq with h | h
        · exact absurd (by rw [h]) e
        · exact ih.first q h
    · show ∃ x ∈ insO p (ordL l), _
      rcases List.mem_cons.1 hq with rfl | hq
      · exact ⟨q, insO_self q _, rfl⟩
      · obtain ⟨x, hx, he⟩ := ih.all q hq
        by_cases e : markOf x = markOf p
        · exact ⟨p, insO_self p _, by rw [← e, he]⟩
        · exact ⟨x, i2 x hx e, he⟩
/-- lists that rise and hold the same are the same -/
theorem rise_uniq : ∀ {L L' : List PtrT}, L.Pairwise (fun p q => ltM (markOf p) (markOf q)) → L'.Pairwise (fun p q => ltM (markOf p) (markOf q)) → (∀ p, p ∈ L ↔ p ∈ L') → L = L'
  | [], [], _, _, _ => rfl
  | [], b :: r, _, _, h => by have := (h b).2 List.mem_cons_self; cases this
  | a :: r, [], _, _, h => by have := (h a).1 List.mem_cons_self; cases this
  | a :: r, b :: r', h1, h2, h => by
    have k1 := List.pairwise_cons.1 h1
    have k2 := List.pairwise_cons.1 h2
    have e : a = b := by
      rcases List.mem_cons.1 ((h a).1 List.mem_cons_self) with e | ha
      · exact e
      · rcases List.mem_cons.1 ((h b).2 List.mem_cons_self) with e | hb
        · exact e.symm
        · exact absurd (k1.1 b hb) (ltM_asymm (k2.1 a ha))
    subst e
    rw [rise_uniq k1.2 k2.2 fun p => ⟨fun hp => ?_, fun hp => ?_⟩]
    · rcases List.mem_cons.1 ((h p).1 (List.mem_cons_of_mem _ hp)) with e | hq
      · rw [e] at hp; exact absurd (k1.1 a hp) (ltM_irrefl _)
      · exact hq
    · rcases List.mem_cons.1 ((h p).2 (List.mem_cons_of_mem _ hp)) with e | hq
      · rw [e] at hp; exact absurd (k2.1 a hp) (ltM_irrefl _)
      · exact hq
theorem IsOrd.uniq {l L : List PtrT} (h : IsOrd l L) : L = ordL l := by
  have k := ordL_is l
  refine rise_uniq h.sorted k.sorted fun p => ⟨fun hp => ?_, fun hp => ?_⟩
  · obtain ⟨h1, _⟩ := firstM_mem (h.first p hp)
    obtain ⟨x, hx, he⟩ := k.all p h1
    have e1 := k.first x hx
    rw [he, h.first p hp] at e1
    rw [Option.some.inj e1]
    exact hx
  · obtain ⟨h1, _⟩ := firstM_mem (k.first p hp)
    obtain ⟨x, hx, he⟩ := h.all p h1
    have e1 := h.first x hx
    rw [he, k.first p hp] at e1
    rw [Option.some.inj e1]
    exact hx
theorem insO_length (p : PtrT) : ∀ L : List PtrT, (insO p L).length ≤ L.length + 1
  | [] => by simp [insO]
  | a :: r => by
    unfold insO
    split
    · simp
    · split
      · simp
      · have := insO_length p r
        simp only [List.length_cons]
        omega
theorem ordL_length : ∀ l : List PtrT, (ordL l).length ≤ l.length
  | [] => Nat.le_refl _
  | p :: l => by
    have h1 := insO_length p (ordL l)
    have h2 := ordL_length l
    show (insO p (ordL l)).length ≤ _
    simp only [List.length_cons]
    omega
/-- what is in order stays as it is -/
theorem ordL_idem {L : List PtrT} (h : L.Pairwise fun p q => ltM (markOf p) (markOf q)) : ordL L = L := by
  refine (IsOrd.uniq ⟨h, fun p hp => ?_, fun q hq => ⟨q, hq, rfl⟩⟩).symm
  induction L with
  | nil => cases hp
  | cons a r ih =>
    have h1 := List.pairwise_cons.1 h
    rw [firstM_cons]
    rcases List.mem_cons.1 hp with rfl | hp
    · rw [if_pos rfl]
    · rw [if_neg (fun e => by have := h1.1 p hp; rw [e] at this; exact ltM_irrefl _ this)]
      exact ih h1.2 hp
/-- a block with a mark and nothing else -/
def toP (m : MarkT) : PtrT := ⟨m.g, m.a, 0, 0, false, 0, 0, m.b, 0, 0, 0, 0⟩
theorem markOf_toP (m : MarkT) : markOf (toP m) = m := rfl
/-- marks that rise are one list -/
theorem marks_uniq {L L' : List PtrT} (h : L.Pairwise fun p q => ltM (markOf p) (markOf q)) (h' : L'.Pairwise fun p q => ltM (markOf p) (markOf q)) (hm : ∀ m, (∃ p ∈ L, markOf p = m) ↔ ∃ p ∈ L', markOf p = m) : L.map markOf = L'.map markOf := by
  have key : ∀ {K : List PtrT}, K.Pairwise (fun p q => ltM (markOf p) (markOf q)) → (K.map fun p => toP (markOf p)).Pairwise fun p q => ltM (markOf p) (markOf q) := fun hk => by
    rw [List.pairwise_map]
    exact hk
  have e := rise_uniq (key h) (key h') fun p => by
    simp only [List.mem_map]
    constructor
    · rintro ⟨q, hq, rfl⟩
      obtain ⟨q', hq', e⟩ := (hm _).1 ⟨q, hq, rfl⟩
      exact ⟨q', hq', by rw [e]⟩
    · rintro ⟨q, hq, rfl⟩
      obtain ⟨q', hq', e⟩ := (hm _).2 ⟨q, hq, rfl⟩
      exact ⟨q', hq', by rw [e]⟩
  have e2 := congrArg (List.map markOf) e
  simpa [Function.comp_def, markOf_toP] using e2
theorem ordL_marks (l : List PtrT) (m : MarkT) : (∃ p ∈ ordL l, markOf p = m) ↔ ∃ p ∈ l, markOf p = m := by
  have h := ordL_is l
  constructor
  · rintro ⟨p, hp, e⟩
    exact ⟨p, (firstM_mem (h.first p hp)).1, e⟩
  · rintro ⟨p, hp, e⟩
    obtain ⟨q, hq, e'⟩ := h.all p hp
    exact ⟨q, hq, e'.trans e⟩
/-- the same marks: the same order of marks -/
theorem ordL_same {l l' : List PtrT} (hm : ∀ p, p ∈ l ↔ p ∈ l') : (ordL l).map markOf = (ordL l').map markOf :=
  marks_uniq (ordL_is l).sorted (ordL_is l').sorted fun m => by
    rw [ordL_marks, ordL_marks]
    exact ⟨fun ⟨p, hp, e⟩ => ⟨p, (hm p).1 hp, e⟩, fun ⟨p, hp, e⟩ => ⟨p, (hm p).2 hp, e⟩⟩
/-- what the stable sort and the compaction leave of a list -/
theorem sort_compact {l : List PtrT} {n : Nat} {h : Nat → Nat} (hn : n = l.length) (hb : Bk (cmpP fun k => l.getD k pD) h 0 n) :
    keepL (fun k => l.getD (h k) pD) (dupP fun k => l.getD (h k) pD) n = ordL l := by
  obtain ⟨E, hE⟩ : ∃ E : Nat → PtrT, E = fun k => l.getD (h k) pD := ⟨_, rfl⟩
  rw [← hE]
  have hst := hb.st
  have hpm := hb.perm
  rw [Nat.sub_zero] at hst hpm
  have hlt : ∀ i, i < n → h i < n := fun i hi => by
    have := hb.mem (Nat.zero_le i) hi
    exact this.2
  have hsur : ∀ x, x < n → ∃ i, i < n ∧ h i = x := fun x hx => by
    have : x ∈ seg h 0 n := hpm.mem_iff.2 (by rw [List.mem_range'_1]; omega)
    obtain ⟨t, ht, e⟩ := seg_mem this
    exact ⟨t, ht, by rw [e, Nat.zero_add]⟩
  -- the order of places
  have hord : ∀ i j, i < j → j < n → Ltn (cmpP fun k => l.getD k pD) (h i) (h j) := fun i j hij hj => by
    have e1 : (seg h 0 n)[i]? = some (h i) := by simp [seg, show i < n by omega]
    have e2 : (seg h 0 n)[j]? = some (h j) := by simp [seg, hj]
    have l1 := (List.getElem?_eq_some_iff.1 e1)
    have l2 := (List.getElem?_eq_some_iff.1 e2)
    obtain ⟨a1, b1⟩ := l1
    obtain ⟨a2, b2⟩ := l2
    have := (List.pairwise_iff_getElem.1 hst) i j a1 a2 hij
    rwa [b1, b2] at this
  have hle : ∀ i j, i < j → j < n → ¬ ltM (markOf (E j)) (markOf (E i)) := fun i j hij hj hlt' => by
    rw [hE] at hlt'
    rcases hord i j hij hj with h1 | ⟨h1, _⟩
    · exact ltM_asymm (ordM_neg.1 h1) hlt'
    · exact h1 (ordM_neg.2 hlt')
  have hle' : ∀ i j, i ≤ j → j < n → ¬ ltM (markOf (E j)) (markOf (E i)) := fun i j hij hj => by
    rcases Nat.eq_or_lt_of_le hij with rfl | h1
    · exact ltM_irrefl _
    · exact hle i j h1 hj
  -- between equals all are equal
  have hbt : ∀ i j k, i ≤ j → j ≤ k → k < n → markOf (E i) = markOf (E k) → markOf (E j) = markOf (E k) := fun i j k h1 h2 h3 he => by
    have a := hle' i j h1 (by omega)
    have b := hle' j k h2 h3
    rw [he] at a
    exact Classical.byContradiction fun hne => (ltM_total hne).elim a b
  have hkeep : ∀ j, j < n → dupP E j = false → ∀ i, i < j → ltM (markOf (E i)) (markOf (E j)) := fun j hj hd i hij => by
    have hne : markOf (E i) ≠ markOf (E j) := fun he => by
      have := hbt i (j - 1) j (by omega) (by omega) hj he
      unfold dupP eqM at hd
      rw [this] at hd
      simp at hd
      omega
    exact (ltM_total hne).resolve_right (hle i j hij hj)
  apply IsOrd.uniq
  refine ⟨?_, fun p hp => ?_, fun q hq => ?_⟩
  · unfold keepL
    rw [List.pairwise_map]
    unfold keepI
    refine List.Pairwise.imp_of_mem (R := fun a b => a < b) ?_ (List.Pairwise.filter _ List.pairwise_lt_range)
    intro a b ha hb' hab
    rw [List.mem_filter, List.mem_range] at hb'
    exact hkeep b hb'.1 (by simpa using hb'.2) a hab
  · unfold keepL at hp
    obtain ⟨j, hj, rfl⟩ := List.mem_map.1 hp
    unfold keepI at hj
    rw [List.mem_filter, List.mem_range] at hj
    have hd : dupP E j = false := by simpa using hj.2
    have hj1 := hj.1
    unfold firstM
    rw [List.find?_eq_some_iff_getElem]
    have hjl := hlt j hj1
    have eE : E j = l[h j]'(by omega) := by
      rw [hE]
      show l.getD (h j) pD = _
      rw [List.getD_eq_getElem?_getD, List.getElem?_eq_getElem (by omega)]
      rfl
    refine ⟨by simp, h j, by omega, eE.symm, fun x hx => ?_⟩
    obtain ⟨i, hi, rfl⟩ := hsur x (by omega)
    have eX : l[h i]'(by omega) = E i := by
      rw [hE]
      show _ = l.getD (h i) pD
      rw [List.getD_eq_getElem?_getD, List.getElem?_eq_getElem (by omega)]
      rfl
    rw [eX]
    simp only [Bool.not_eq_true', decide_eq_false_iff_not]
    intro he
    rcases Nat.lt_trichotomy i j with h1 | h1 | h1
    · have := hkeep j hj1 hd i h1
      rw [he] at this
      exact ltM_irrefl _ this
    · rw [h1] at hx; omega
    · rcases hord j i h1 hi with h2 | ⟨_, h2⟩
      · have h3 : ltM (markOf (E j)) (markOf (E i)) := by rw [hE]; exact ordM_neg.1 h2
        rw [he] at h3
        exact ltM_irrefl _ h3
      · omega
  · obtain ⟨x, hx, rfl⟩ := List.getElem_of_mem hq
    obtain ⟨i, hi, rfl⟩ := hsur x (by omega)
    have eX : l[h i] = E i := by
      rw [hE]
      show _ = l.getD (h i) pD
      rw [List.getD_eq_getElem?_getD, List.getElem?_eq_getElem hx]
      rfl
    rw [eX]
    clear hq eX hx
    induction i with
    | zero => exact ⟨E 0, List.mem_map.2 ⟨0, by unfold keepI; rw [List.mem_filter, List.mem_range]; exact ⟨hi, by simp [dupP]⟩, rfl⟩, rfl⟩
    | succ i ih =>
      cases hd : dupP E (i + 1) with
      | false => exact ⟨E (i + 1), List.mem_map.2 ⟨i + 1, by unfold keepI; rw [List.mem_filter, List.mem_range]; exact ⟨hi, by rw [hd]; rfl⟩, rfl⟩, rfl⟩
      | true =>
        obtain ⟨p, hp, he⟩ := ih (by omega)
        refine ⟨p, hp, ?_⟩
        unfold dupP eqM at hd
        simp at hd
        rw [he, hd]
end Go.Proofs.Ytbkknpodipapoaa
