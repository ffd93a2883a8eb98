/- space, the plain law: a map's runs are the used sectors, written in the one way that there is. -/
import Derived.Test.YtmnhdpojonlfhaaSpM
namespace Go.Proofs.Ytmnhdpojonlfhaa

def Us (rs : List (Nat × Nat)) (x : Nat) : Prop := ∃ r ∈ rs, r.1 ≤ x ∧ x < r.1 + r.2
theorem Us_nil (x : Nat) : ¬ Us [] x := by rintro ⟨r, hr, _⟩; simp at hr
theorem Us_cons (r : Nat × Nat) (t : List (Nat × Nat)) (x : Nat) : Us (r :: t) x ↔ (r.1 ≤ x ∧ x < r.1 + r.2) ∨ Us t x := by
  simp only [Us, List.mem_cons]
  constructor
  · rintro ⟨q, rfl | hq, h⟩
    · exact .inl h
    · exact .inr ⟨q, hq, h⟩
  · rintro (h | ⟨q, hq, h⟩)
    · exact ⟨r, .inl rfl, h⟩
    · exact ⟨q, .inr hq, h⟩
theorem Us_append (a b : List (Nat × Nat)) (x : Nat) : Us (a ++ b) x ↔ Us a x ∨ Us b x := by
  induction a with
  | nil => simp [Us]
  | cons r t ih => rw [List.cons_append, Us_cons, Us_cons, ih, or_assoc]
theorem Us_one (r : Nat × Nat) (x : Nat) : Us [r] x ↔ r.1 ≤ x ∧ x < r.1 + r.2 := by
  rw [Us_cons]
  exact or_iff_left (Us_nil x)
theorem Us_get {rs : List (Nat × Nat)} {x : Nat} (h : Us rs x) : ∃ j, ∃ hj : j < rs.length, rs[j].1 ≤ x ∧ x < rs[j].1 + rs[j].2 := by
  obtain ⟨r, hr, h⟩ := h
  obtain ⟨j, hj, rfl⟩ := List.mem_iff_getElem.1 hr
  exact ⟨j, hj, h⟩
theorem Us_of {rs : List (Nat × Nat)} {x j : Nat} (hj : j < rs.length) (h1 : rs[j].1 ≤ x) (h2 : x < rs[j].1 + rs[j].2) : Us rs x := ⟨rs[j], List.getElem_mem _, h1, h2⟩

theorem Good.cons {size : Nat} {r : Nat × Nat} {t : List (Nat × Nat)} (h : Good size (r :: t)) : 1 ≤ r.2 ∧ r.1 + r.2 ≤ size ∧ Good size t ∧ ∀ q ∈ t, r.1 + r.2 < q.1 := by
  have h1 := h.1 r (by simp)
  have h2 := List.pairwise_cons.1 h.2
  exact ⟨h1.1, h1.2, ⟨fun q hq => h.1 q (by simp [hq]), h2.2⟩, h2.1⟩
theorem Us_lt {size : Nat} {rs : List (Nat × Nat)} (h : Good size rs) {x : Nat} (hx : Us rs x) : x < size := by
  obtain ⟨r, hr, h1, h2⟩ := hx
  have := (h.1 r hr).2
  omega

theorem good_uniq {s1 s2 : Nat} : ∀ {l1 l2 : List (Nat × Nat)}, Good s1 l1 → Good s2 l2 → (∀ x, Us l1 x ↔ Us l2 x) → l1 = l2 := by
  intro l1
  induction l1 with
  | nil =>
    intro l2 _ h2 hu
    cases l2 with
    | nil => rfl
    | cons r t => exact absurd ((hu r.1).2 ((Us_cons _ _ _).2 (.inl ⟨by omega, by have := h2.cons.1; omega⟩))) (Us_nil _)
  | cons r t ih =>
    intro l2 h1 h2 hu
    cases l2 with
    | nil => exact absurd ((hu r.1).1 ((Us_cons _ _ _).2 (.inl ⟨by omega, by have := h1.cons.1; omega⟩))) (Us_nil _)
    | cons q u =>
      obtain ⟨a1, _, a3, a4⟩ := h1.cons
      obtain ⟨b1, _, b3, b4⟩ := h2.cons
      have lo : ∀ {r : Nat × Nat} {t : List (Nat × Nat)}, (∀ q ∈ t, r.1 + r.2 < q.1) → ∀ x, Us t x → r.1 + r.2 < x := by
        rintro r t h x ⟨q, hq, h1, _⟩
        have := h q hq
        omega
      have hr := (hu r.1).1 ((Us_cons _ _ _).2 (.inl ⟨by omega, by omega⟩))
      have hq := (hu q.1).2 ((Us_cons _ _ _).2 (.inl ⟨by omega, by omega⟩))
      have e1 : r.1 = q.1 := by
        rcases (Us_cons _ _ _).1 hr with h | h <;> rcases (Us_cons _ _ _).1 hq with h' | h'
        · omega
        · have := lo a4 _ h'; omega
        · have := lo b4 _ h; omega
        · have := lo a4 _ h'; have := lo b4 _ h; omega
      have e2 : r.2 = q.2 := by
        rcases Nat.lt_trichotomy r.2 q.2 with hlt | he | hgt
        · have := (hu (r.1 + r.2)).2 ((Us_cons _ _ _).2 (.inl ⟨by omega, by omega⟩))
          rcases (Us_cons _ _ _).1 this with h | h
          · omega
          · have := lo a4 _ h; omega
        · exact he
        · have := (hu (q.1 + q.2)).1 ((Us_cons _ _ _).2 (.inl ⟨by omega, by omega⟩))
          rcases (Us_cons _ _ _).1 this with h | h
          · omega
          · have := lo b4 _ h; omega
      have e : r = q := Prod.ext e1 e2
      subst e
      congr 1
      refine ih a3 b3 fun x => ⟨fun h => ?_, fun h => ?_⟩
      · have := lo a4 _ h
        rcases (Us_cons _ _ _).1 ((hu x).1 ((Us_cons _ _ _).2 (.inr h))) with h' | h'
        · omega
        · exact h'
      · have := lo b4 _ h
        rcases (Us_cons _ _ _).1 ((hu x).2 ((Us_cons _ _ _).2 (.inr h))) with h' | h'
        · omega
        · exact h'

theorem Us_joinStep (out : List (Nat × Nat)) (r : Nat × Nat) (x : Nat) : Us (joinStep out r) x ↔ Us out x ∨ (r.1 ≤ x ∧ x < r.1 + r.2) := by
  rcases List.eq_nil_or_concat out with rfl | ⟨o, q, rfl⟩
  · rw [joinStep_nil, Us_one]
    exact (or_iff_right (Us_nil x)).symm
  · rw [List.concat_eq_append]
    by_cases h : q.1 + q.2 = r.1
    · rw [joinStep_touch _ _ _ h, Us_append, Us_append, Us_one, Us_one, or_assoc]
      refine or_congr_right ?_
      dsimp only
      omega
    · rw [joinStep_apart _ _ _ h, Us_append, Us_one]
theorem Us_joinL (rs : List (Nat × Nat)) (x : Nat) : Us (joinL rs) x ↔ Us rs x := by
  have key : ∀ k, k ≤ rs.length → (Us (joinL (rs.take k)) x ↔ Us (rs.take k) x) := by
    intro k
    induction k with
    | zero => intro _; simp [joinL]
    | succ k ih =>
      intro hk
      rw [joinL_step _ _ hk, Us_joinStep, ih (by omega), List.take_succ_eq_append_getElem hk, Us_append, Us_one, List.getD_eq_getElem?_getD, List.getElem?_eq_getElem hk]
      rfl
  have := key rs.length (Nat.le_refl _)
  rwa [List.take_length] at this
theorem sumR_joinStep (out : List (Nat × Nat)) (r : Nat × Nat) : sumR (joinStep out r) = sumR out + r.2 := by
  rcases List.eq_nil_or_concat out with rfl | ⟨o, q, rfl⟩
  · rw [joinStep_nil]; simp [sumR]
  · rw [List.concat_eq_append]
    by_cases h : q.1 + q.2 = r.1
    · rw [joinStep_touch _ _ _ h, sumR_append, sumR_append]; simp [sumR]; omega
    · rw [joinStep_apart _ _ _ h, sumR_append]; simp [sumR]
theorem sumR_joinL (rs : List (Nat × Nat)) : sumR (joinL rs) = sumR rs := by
  have key : ∀ k, k ≤ rs.length → sumR (joinL (rs.take k)) = sumR (rs.take k) := by
    intro k
    induction k with
    | zero => intro _; simp [joinL]
    | succ k ih =>
      intro hk
      rw [joinL_step _ _ hk, sumR_joinStep, ih (by omega), sumR_step _ _ hk]
  have := key rs.length (Nat.le_refl _)
  rwa [List.take_length] at this

/-- the run that first says: does it touch the stretch? -/
theorem first_hits {size a n : Nat} {rs : List (Nat × Nat)} (h : Good size rs) :
    (firstOf rs a < rs.length ∧ (rs.getD (firstOf rs a) (0, 0)).1 < a + n) ↔ ∃ x, a ≤ x ∧ x < a + n ∧ Us rs x ∨ firstOf rs a < rs.length ∧ n = 0 ∧ (rs.getD (firstOf rs a) (0, 0)).1 < a := by
  constructor
  · rintro ⟨hi, hq⟩
    rcases Nat.eq_zero_or_pos n with rfl | hn
    · exact ⟨0, .inr ⟨hi, rfl, by omega⟩⟩
    · have hend := List.findIdx_getElem (p := fun r : Nat × Nat => decide (a < r.1 + r.2)) (w := hi)
      have hend : a < rs[firstOf rs a].1 + rs[firstOf rs a].2 := of_decide_eq_true hend
      have e : rs.getD (firstOf rs a) (0, 0) = rs[firstOf rs a] := by rw [List.getD_eq_getElem?_getD, List.getElem?_eq_getElem hi]; rfl
      rw [e] at hq
      have := (h.1 rs[firstOf rs a] (List.getElem_mem _)).1
      exact ⟨max a rs[firstOf rs a].1, .inl ⟨by omega, by omega, Us_of hi (by omega) (by omega)⟩⟩
  · rintro ⟨x, ⟨h1, h2, hx⟩ | ⟨hi, rfl, hq⟩⟩
    · obtain ⟨j, hj, g1, g2⟩ := Us_get hx
      have hij : firstOf rs a ≤ j := by
        refine Nat.le_of_not_lt fun hlt => ?_
        have := firstOf_before hlt hj
        omega
      have hi : firstOf rs a < rs.length := by omega
      refine ⟨hi, ?_⟩
      rw [List.getD_eq_getElem?_getD, List.getElem?_eq_getElem hi]
      show rs[firstOf rs a].1 < a + n
      rcases Nat.eq_or_lt_of_le hij with he | hlt
      · have : rs[firstOf rs a] = rs[j] := by congr 1
        rw [this]; omega
      · have := h.le hlt hj
        omega
    · exact ⟨hi, by omega⟩

/-- TAKE, by the used sectors -/
theorem takeS_spec {size : Nat} {rs : List (Nat × Nat)} (h : Good size rs) (a n : Int) :
    (¬ May size a n ∧ takeS size rs a n = (1, rs)) ∨ (May size a n ∧ (∃ x, a.toNat ≤ x ∧ x < a.toNat + n.toNat ∧ Us rs x) ∧ takeS size rs a n = (13, rs)) ∨
    (May size a n ∧ (∀ x, a.toNat ≤ x → x < a.toNat + n.toNat → ¬ Us rs x) ∧ (takeS size rs a n).1 = 0 ∧ (∀ x, Us (takeS size rs a n).2 x ↔ Us rs x ∨ (a.toNat ≤ x ∧ x < a.toNat + n.toNat)) ∧ sumR (takeS size rs a n).2 = sumR rs + n.toNat) := by
  by_cases hm : May size a n
  · have hm' := hm
    obtain ⟨m1, m2, m3, m4⟩ := hm
    have hh := first_hits (a := a.toNat) (n := n.toNat) h
    by_cases hu : firstOf rs a.toNat < rs.length ∧ (rs.getD (firstOf rs a.toNat) (0, 0)).1 < a.toNat + n.toNat
    · refine .inr (.inl ⟨hm', ?_, by unfold takeS; rw [if_pos hm', if_pos hu]⟩)
      obtain ⟨x, hx | hx⟩ := hh.1 hu
      · exact ⟨x, hx⟩
      · omega
    · have e : takeS size rs a n = (0, joinL (rs.take (firstOf rs a.toNat) ++ (a.toNat, n.toNat) :: rs.drop (firstOf rs a.toNat))) := by unfold takeS; rw [if_pos hm', if_neg hu]
      refine .inr (.inr ⟨hm', fun x h1 h2 hx => hu (hh.2 ⟨x, .inl ⟨h1, h2, hx⟩⟩), by rw [e], fun x => ?_, ?_⟩)
      · rw [e]
        show Us (joinL _) x ↔ _
        rw [Us_joinL, Us_append, Us_cons]
        conv => rhs; rw [← List.take_append_drop (firstOf rs a.toNat) rs, Us_append]
        dsimp only
        constructor
        · rintro (h | h | h)
          · exact .inl (.inl h)
          · exact .inr h
          · exact .inl (.inr h)
        · rintro ((h | h) | h)
          · exact .inl h
          · exact .inr (.inr h)
          · exact .inr (.inl h)
      · rw [e]
        show sumR (joinL _) = _
        rw [sumR_joinL, sumR_append, sumR_cons]
        conv => rhs; rw [← List.take_append_drop (firstOf rs a.toNat) rs, sumR_append]
        dsimp only
        omega
  · exact .inl ⟨hm, by unfold takeS; rw [if_neg hm]⟩

theorem Us_parts {q : Nat × Nat} {a n x : Nat} (h1 : q.1 ≤ a) (h2 : a + n ≤ q.1 + q.2) : Us (partsOf q a n) x ↔ (q.1 ≤ x ∧ x < q.1 + q.2) ∧ ¬ (a ≤ x ∧ x < a + n) := by
  unfold Us partsOf
  constructor
  · rintro ⟨r, hr, g1, g2⟩
    simp only [List.mem_filter, List.mem_cons, List.not_mem_nil, or_false, bne_iff_ne, ne_eq] at hr
    obtain ⟨rfl | rfl, _⟩ := hr <;> dsimp only at * <;> omega
  · rintro ⟨⟨g1, g2⟩, g3⟩
    by_cases hx : x < a
    · exact ⟨(q.1, a - q.1), List.mem_filter.2 ⟨by simp, by simp only [bne_iff_ne, ne_eq]; omega⟩, g1, by dsimp only; omega⟩
    · exact ⟨(a + n, q.1 + q.2 - a - n), List.mem_filter.2 ⟨by simp, by simp only [bne_iff_ne, ne_eq]; omega⟩, by dsimp only; omega, by dsimp only; omega⟩
theorem sumR_parts {q : Nat × Nat} {a n : Nat} (h1 : q.1 ≤ a) (h2 : a + n ≤ q.1 + q.2) : sumR (partsOf q a n) + n = q.2 := by
  unfold partsOf sumR
  by_cases e1 : a - q.1 = 0 <;> by_cases e2 : q.1 + q.2 - a - n = 0 <;> simp [e1, e2] <;> omega

/-- FREE, by the used sectors -/
theorem freeS_spec {size : Nat} {rs : List (Nat × Nat)} (h : Good size rs) (a n : Int) :
    (¬ May size a n ∧ freeS size rs a n = (1, rs)) ∨ (May size a n ∧ (∃ x, a.toNat ≤ x ∧ x < a.toNat + n.toNat ∧ ¬ Us rs x) ∧ freeS size rs a n = (7, rs)) ∨
    (May size a n ∧ (∀ x, a.toNat ≤ x → x < a.toNat + n.toNat → Us rs x) ∧ (freeS size rs a n).1 = 0 ∧ (∀ x, Us (freeS size rs a n).2 x ↔ Us rs x ∧ ¬ (a.toNat ≤ x ∧ x < a.toNat + n.toNat)) ∧ sumR (freeS size rs a n).2 + n.toNat = sumR rs) := by
  by_cases hm : May size a n
  · have hm' := hm
    obtain ⟨m1, m2, m3, m4⟩ := hm
    obtain ⟨A, hA⟩ : ∃ A, A = a.toNat := ⟨_, rfl⟩
    obtain ⟨N, hN⟩ : ∃ N, N = n.toNat := ⟨_, rfl⟩
    obtain ⟨i, hi⟩ : ∃ i, i = firstOf rs A := ⟨_, rfl⟩
    by_cases hu : i < rs.length ∧ (rs.getD i (0, 0)).1 ≤ A ∧ A + N ≤ (rs.getD i (0, 0)).1 + (rs.getD i (0, 0)).2
    · have e : freeS size rs a n = (0, rs.take i ++ partsOf (rs.getD i (0, 0)) A N ++ rs.drop (i + 1)) := by unfold freeS; rw [if_pos hm', ← hA, ← hN, ← hi, if_pos hu]
      obtain ⟨hil, u1, u2⟩ := hu
      have eg : rs.getD i (0, 0) = rs[i] := by rw [List.getD_eq_getElem?_getD, List.getElem?_eq_getElem hil]; rfl
      rw [eg] at u1 u2 e
      have hsplit : rs = rs.take i ++ rs[i] :: rs.drop (i + 1) := by rw [← List.drop_eq_getElem_cons hil, List.take_append_drop]
      refine .inr (.inr ⟨hm', fun x h1 h2 => Us_of hil (by omega) (by omega), by rw [e], fun x => ?_, ?_⟩)
      · rw [← hA, ← hN, e]
        show Us (rs.take i ++ partsOf rs[i] A N ++ rs.drop (i + 1)) x ↔ _
        rw [Us_append, Us_append, Us_parts u1 u2]
        have hus : Us rs x ↔ Us (rs.take i) x ∨ (rs[i].1 ≤ x ∧ x < rs[i].1 + rs[i].2) ∨ Us (rs.drop (i + 1)) x := by
          conv => lhs; rw [hsplit, Us_append, Us_cons]
        rw [hus]
        have hlow : Us (rs.take i) x → x < rs[i].1 := by
          rintro ⟨r, hr, _, g2⟩
          obtain ⟨j, hj, hji, rfl⟩ := mem_take_get hr
          have := h.le hji hil
          omega
        have hhigh : Us (rs.drop (i + 1)) x → rs[i].1 + rs[i].2 < x := by
          rintro ⟨r, hr, g1, _⟩
          obtain ⟨j, hj, hij, rfl⟩ := mem_drop_get hr
          have := h.le (show i < j by omega) hj
          omega
        constructor
        · rintro ((g | g) | g)
          · exact ⟨.inl g, by have := hlow g; omega⟩
          · exact ⟨.inr (.inl g.1), g.2⟩
          · exact ⟨.inr (.inr g), by have := hhigh g; omega⟩
        · rintro ⟨g | g | g, g2⟩
          · exact .inl (.inl g)
          · exact .inl (.inr ⟨g, g2⟩)
          · exact .inr g
      · rw [e, ← hN]
        show sumR (rs.take i ++ partsOf rs[i] A N ++ rs.drop (i + 1)) + N = _
        conv => rhs; rw [hsplit]
        rw [sumR_append, sumR_append, sumR_append, sumR_cons]
        have := sumR_parts u1 u2
        omega
    · refine .inr (.inl ⟨hm', ?_, by unfold freeS; rw [if_pos hm', ← hA, ← hN, ← hi, if_neg hu]⟩)
      rw [← hA, ← hN]
      have : ¬ ∀ x, A ≤ x → x < A + N → Us rs x := by
        intro hall
        obtain ⟨j, hj, g1, g2⟩ := Us_get (hall A (Nat.le_refl _) (by omega))
        have hij : i ≤ j := by
          refine Nat.le_of_not_lt fun hlt => ?_
          have := firstOf_before (rs := rs) (a := A) (by rw [← hi]; exact hlt) hj
          omega
        have hil : i < rs.length := by omega
        have hend : A < rs[i].1 + rs[i].2 := by
          subst hi
          have := List.findIdx_getElem (p := fun r : Nat × Nat => decide (A < r.1 + r.2)) (w := hil)
          exact of_decide_eq_true this
        have hije : i = j := by
          rcases Nat.eq_or_lt_of_le hij with he | hlt
          · exact he
          · have := h.le hlt hj
            omega
        subst hije
        have eg : rs.getD i (0, 0) = rs[i] := by rw [List.getD_eq_getElem?_getD, List.getElem?_eq_getElem hil]; rfl
        refine hu ⟨hil, by rw [eg]; exact g1, ?_⟩
        rw [eg]
        refine Nat.le_of_not_lt fun hlt => ?_
        obtain ⟨k, hk, k1, k2⟩ := Us_get (hall (rs[i].1 + rs[i].2) (by omega) hlt)
        rcases Nat.lt_trichotomy k i with c | c | c
        · have := h.le c hil
          omega
        · subst c; omega
        · have := h.le c hk
          omega
      refine Classical.byContradiction fun hno => this fun x h1 h2 => Classical.byContradiction fun hx => hno ⟨x, h1, h2, hx⟩
  · exact .inl ⟨hm, by unfold freeS; rw [if_neg hm]⟩

/-- what is taken and freed leaves the map as it was -/
theorem take_free {size : Nat} {rs : List (Nat × Nat)} (h : Good size rs) (a n : Int) (ht : (takeS size rs a n).1 = 0) : freeS size (takeS size rs a n).2 a n = (0, rs) := by
  have hg := takeS_good h a n
  rcases takeS_spec h a n with ⟨_, e⟩ | ⟨_, _, e⟩ | ⟨hm, hno, _, hus, _⟩
  · rw [e] at ht; simp at ht
  · rw [e] at ht; simp at ht
  · rcases freeS_spec hg a n with ⟨hn, _⟩ | ⟨_, ⟨x, h1, h2, hx⟩, _⟩ | ⟨_, _, e0, hus2, _⟩
    · exact absurd hm hn
    · exact absurd ((hus x).2 (.inr ⟨h1, h2⟩)) hx
    · refine Prod.ext e0 (good_uniq (freeS_good hg a n) h fun x => ?_)
      rw [hus2, hus]
      constructor
      · rintro ⟨g | g, g2⟩
        · exact g
        · exact absurd g g2
      · intro g
        exact ⟨.inl g, fun ⟨g1, g2⟩ => hno x g1 g2 g⟩
theorem free_take {size : Nat} {rs : List (Nat × Nat)} (h : Good size rs) (a n : Int) (ht : (freeS size rs a n).1 = 0) : takeS size (freeS size rs a n).2 a n = (0, rs) := by
  have hg := freeS_good h a n
  rcases freeS_spec h a n with ⟨_, e⟩ | ⟨_, _, e⟩ | ⟨hm, hall, _, hus, _⟩
  · rw [e] at ht; simp at ht
  · rw [e] at ht; simp at ht
  · rcases takeS_spec hg a n with ⟨hn, _⟩ | ⟨_, ⟨x, h1, h2, hx⟩, _⟩ | ⟨_, _, e0, hus2, _⟩
    · exact absurd hm hn
    · exact absurd ⟨h1, h2⟩ ((hus x).1 hx).2
    · refine Prod.ext e0 (good_uniq (takeS_good hg a n) h fun x => ?_)
      rw [hus2, hus]
      constructor
      · rintro (⟨g, _⟩ | ⟨g1, g2⟩)
        · exact g
        · exact hall x g1 g2
      · intro g
        by_cases hx : a.toNat ≤ x ∧ x < a.toNat + n.toNat
        · exact .inr hx
        · exact .inl ⟨g, hx⟩
end Go.Proofs.Ytmnhdpojonlfhaa
