/- space, the plain law of Find. -/
import Derived.Test.YtmnhdpojonlfhaaSpP
namespace Go.Proofs.Ytmnhdpojonlfhaa

theorem fitGo_spec (size n : Nat) (hn : 1 ≤ n) : ∀ (D : List (Nat × Nat)) (c : Nat), Good size D →
    (∀ q, fitGo size n D c = some q → c ≤ q ∧ q + n ≤ size ∧ (∀ x, q ≤ x → x < q + n → ¬ Us D x) ∧ ∀ p, c ≤ p → p < q → ∃ x, p ≤ x ∧ x < p + n ∧ Us D x) ∧
    (fitGo size n D c = none → ∀ p, c ≤ p → p + n ≤ size → ∃ x, p ≤ x ∧ x < p + n ∧ Us D x) := by
  intro D
  induction D with
  | nil =>
    intro c _
    refine ⟨fun q hq => ?_, fun hq p hp hps => ?_⟩
    · rw [fitGo] at hq
      split at hq
      · simp only [Option.some.injEq] at hq
        subst hq
        exact ⟨Nat.le_refl _, by omega, fun x _ _ => Us_nil x, fun p h1 h2 => by omega⟩
      · simp at hq
    · rw [fitGo] at hq
      split at hq
      · simp at hq
      · omega
  | cons r t ih =>
    intro c hg
    obtain ⟨g1, g2, g3, g4⟩ := hg.cons
    have lo : ∀ x, Us t x → r.1 + r.2 < x := by
      rintro x ⟨q, hq, h1, _⟩
      have := g4 q hq
      omega
    by_cases hfit : (n : Int) ≤ (r.1 : Int) - (c : Int)
    · have e : fitGo size n (r :: t) c = some c := by rw [fitGo, if_pos hfit]
      rw [e]
      refine ⟨fun q hq => ?_, fun h => by simp at h⟩
      simp only [Option.some.injEq] at hq
      subst hq
      refine ⟨Nat.le_refl _, by omega, fun x h1 h2 hx => ?_, fun p h1 h2 => by omega⟩
      rcases (Us_cons _ _ _).1 hx with h | h
      · omega
      · have := lo x h; omega
    · have e : fitGo size n (r :: t) c = fitGo size n t (max c (r.1 + r.2)) := by rw [fitGo, if_neg hfit]
      rw [e]
      obtain ⟨i1, i2⟩ := ih (max c (r.1 + r.2)) g3
      have low : ∀ p, c ≤ p → p < max c (r.1 + r.2) → ∃ x, p ≤ x ∧ x < p + n ∧ Us (r :: t) x := fun p h1 h2 =>
        ⟨max p r.1, by omega, by omega, (Us_cons _ _ _).2 (.inl ⟨by omega, by omega⟩)⟩
      refine ⟨fun q hq => ?_, fun hq p hp hps => ?_⟩
      · obtain ⟨a1, a2, a3, a4⟩ := i1 q hq
        refine ⟨by omega, a2, fun x h1 h2 hx => ?_, fun p h1 h2 => ?_⟩
        · rcases (Us_cons _ _ _).1 hx with h | h
          · omega
          · exact a3 x h1 h2 h
        · by_cases hlow : p < max c (r.1 + r.2)
          · exact low p h1 hlow
          · obtain ⟨x, b1, b2, b3⟩ := a4 p (by omega) h2
            exact ⟨x, b1, b2, (Us_cons _ _ _).2 (.inr b3)⟩
      · by_cases hlow : p < max c (r.1 + r.2)
        · exact low p hp hlow
        · obtain ⟨x, b1, b2, b3⟩ := i2 hq p (by omega) hps
          exact ⟨x, b1, b2, (Us_cons _ _ _).2 (.inr b3)⟩

theorem Us_drop {size : Nat} {rs : List (Nat × Nat)} (_h : Good size rs) {f x : Nat} (hx : f ≤ x) : Us (rs.drop (firstOf rs f)) x ↔ Us rs x := by
  conv => rhs; rw [← List.take_append_drop (firstOf rs f) rs]
  rw [Us_append]
  refine (or_iff_right ?_).symm
  rintro ⟨r, hr, g1, g2⟩
  obtain ⟨j, hj, hji, rfl⟩ := mem_take_get hr
  have := firstOf_before hji hj
  omega
theorem Good.drop {size k : Nat} {rs : List (Nat × Nat)} (h : Good size rs) : Good size (rs.drop k) := ⟨fun r hr => h.1 r (List.mem_of_mem_drop hr), h.2.sublist (List.drop_sublist _ _)⟩

theorem fitS_spec {size n f : Nat} {rs : List (Nat × Nat)} (h : Good size rs) (hn : 1 ≤ n) :
    (∀ q, fitS size rs n f = some q → f ≤ q ∧ q + n ≤ size ∧ (∀ x, q ≤ x → x < q + n → ¬ Us rs x) ∧ ∀ p, f ≤ p → p < q → ∃ x, p ≤ x ∧ x < p + n ∧ Us rs x) ∧
    (fitS size rs n f = none → ∀ p, f ≤ p → p + n ≤ size → ∃ x, p ≤ x ∧ x < p + n ∧ Us rs x) := by
  obtain ⟨h1, h2⟩ := fitGo_spec size n hn (rs.drop (firstOf rs f)) f h.drop
  refine ⟨fun q hq => ?_, fun hq p hp hps => ?_⟩
  · obtain ⟨a1, a2, a3, a4⟩ := h1 q hq
    refine ⟨a1, a2, fun x b1 b2 hx => a3 x b1 b2 ((Us_drop h (by omega)).2 hx), fun p b1 b2 => ?_⟩
    obtain ⟨x, c1, c2, c3⟩ := a4 p b1 b2
    exact ⟨x, c1, c2, (Us_drop h (by omega)).1 c3⟩
  · obtain ⟨x, c1, c2, c3⟩ := h2 hq p hp hps
    exact ⟨x, c1, c2, (Us_drop h (by omega)).1 c3⟩

/-- FIND: a free stretch; none where there is none. -/
theorem findS_some {size n f q : Nat} {rs : List (Nat × Nat)} (h : Good size rs) (hn : 1 ≤ n) (hq : findS size rs n f = some q) : f ≤ size ∧ q + n ≤ size ∧ (∀ x, q ≤ x → x < q + n → ¬ Us rs x) := by
  unfold findS at hq
  split at hq
  · rename_i hc
    refine ⟨by omega, ?_⟩
    simp only [Int.toNat_natCast] at hq
    cases e : fitS size rs n f with
    | some x =>
      rw [e] at hq
      simp only [Option.some.injEq] at hq
      subst hq
      obtain ⟨_, a2, a3, _⟩ := (fitS_spec h hn).1 _ e
      exact ⟨a2, a3⟩
    | none =>
      rw [e] at hq
      obtain ⟨_, a2, a3, _⟩ := (fitS_spec h hn).1 _ hq
      exact ⟨a2, a3⟩
  · simp at hq
theorem findS_none {size n f : Nat} {rs : List (Nat × Nat)} (h : Good size rs) (hn : 1 ≤ n) (hf : f ≤ size) (hq : findS size rs n f = none) : ∀ p, p + n ≤ size → ∃ x, p ≤ x ∧ x < p + n ∧ Us rs x := by
  unfold findS at hq
  rw [if_pos ⟨by omega, by omega, by omega⟩] at hq
  simp only [Int.toNat_natCast] at hq
  cases e : fitS size rs n f with
  | some x => rw [e] at hq; simp at hq
  | none =>
    rw [e] at hq
    exact fun p hp => (fitS_spec h hn).2 hq p (by omega) hp
end Go.Proofs.Ytmnhdpojonlfhaa
