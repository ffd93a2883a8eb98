/- Stable order of numbered things: plain lemmas on lists, no program. -/
namespace Go.Proofs.Ytbkknpodipapoaa

/-- a strict weak order -/
structure SwoL (c : Nat → Nat → Int) : Prop where
  asymm : ∀ x y, c x y < 0 → ¬ c y x < 0
  ntrans : ∀ x y z, ¬ c x y < 0 → ¬ c y z < 0 → ¬ c x z < 0
/-- comes ahead: it is less, or it isn't more and was ahead -/
def Ltn (c : Nat → Nat → Int) (x y : Nat) : Prop := c x y < 0 ∨ (¬ c y x < 0 ∧ x < y)
theorem Ltn.trans {c : Nat → Nat → Int} (hc : SwoL c) {x y z : Nat} (h1 : Ltn c x y) (h2 : Ltn c y z) : Ltn c x z := by
  rcases h1 with h1 | ⟨h1, i1⟩ <;> rcases h2 with h2 | ⟨h2, i2⟩
  · left
    apply Classical.byContradiction
    intro h
    exact hc.ntrans x z y h (hc.asymm _ _ h2) h1
  · left
    apply Classical.byContradiction
    intro h
    exact hc.ntrans x z y h h2 h1
  · left
    apply Classical.byContradiction
    intro h
    exact hc.ntrans y x z h1 h h2
  · by_cases h : c x z < 0
    · exact .inl h
    · exact .inr ⟨hc.ntrans z y x h2 h1, by omega⟩
theorem Ltn.irrefl {c : Nat → Nat → Int} (hc : SwoL c) (x : Nat) : ¬ Ltn c x x := by
  rintro (h | ⟨_, h⟩)
  · exact hc.asymm _ _ h h
  · omega
theorem Ltn.total (c : Nat → Nat → Int) {x y : Nat} (h : x ≠ y) : Ltn c x y ∨ Ltn c y x := by
  by_cases h1 : c x y < 0
  · exact .inl (.inl h1)
  · by_cases h2 : c y x < 0
    · exact .inr (.inl h2)
    · rcases Nat.lt_or_gt_of_ne h with h3 | h3
      · exact .inl (.inr ⟨h2, h3⟩)
      · exact .inr (.inr ⟨h1, h3⟩)
/-- in the stable order -/
def StL (c : Nat → Nat → Int) (l : List Nat) : Prop := l.Pairwise (Ltn c)
theorem StL.uniq {c : Nat → Nat → Int} (hc : SwoL c) : ∀ {l l' : List Nat}, StL c l → StL c l' → l.Perm l' → l = l'
  | [], l', _, _, hp => by rw [List.nil_perm.1 hp]
  | a :: l, [], _, _, hp => by have := hp.length_eq; simp at this
  | a :: l, b :: l', h, h', hp => by
    have h1 := List.pairwise_cons.1 h
    have h2 := List.pairwise_cons.1 h'
    have hab : a = b := by
      apply Classical.byContradiction
      intro hne
      have ha : a ∈ b :: l' := hp.mem_iff.1 (by simp)
      have hb : b ∈ a :: l := hp.mem_iff.2 (by simp)
      rcases List.mem_cons.1 ha with e | ha
      · exact hne e
      · rcases List.mem_cons.1 hb with e | hb
        · exact hne e.symm
        · exact Ltn.irrefl hc a ((h1.1 b hb).trans hc (h2.1 a ha))
    subst hab
    rw [StL.uniq hc h1.2 h2.2 ((List.perm_cons a).1 hp)]
theorem StL.left {c : Nat → Nat → Int} {a b : List Nat} (h : StL c (a ++ b)) : StL c a := (List.pairwise_append.1 h).1
theorem StL.right {c : Nat → Nat → Int} {a b : List Nat} (h : StL c (a ++ b)) : StL c b := (List.pairwise_append.1 h).2.1
theorem StL.cross {c : Nat → Nat → Int} {a b : List Nat} (h : StL c (a ++ b)) : ∀ x ∈ a, ∀ y ∈ b, Ltn c x y := fun x hx y hy => (List.pairwise_append.1 h).2.2 x hx y hy
/-- all of one ahead of all of another: it is enough of the last and the first -/
theorem ahead_of_ends {c : Nat → Nat → Int} (hc : SwoL c) {a b : List Nat} (ha : StL c a) (hb : StL c b) (h : ∀ x y, a.getLast? = some x → b.head? = some y → Ltn c x y) : ∀ x ∈ a, ∀ y ∈ b, Ltn c x y := by
  intro x hx y hy
  rcases List.eq_nil_or_concat a with rfl | ⟨a', l, rfl⟩
  · simp at hx
  · cases b with
    | nil => simp at hy
    | cons f b' =>
      rw [List.concat_eq_append] at *
      have hlf := h l f (by simp) (by simp)
      have h1 : x = l ∨ Ltn c x l := by
        rcases List.mem_append.1 hx with hx | hx
        · exact .inr (ha.cross x hx l (by simp))
        · exact .inl (List.mem_singleton.1 hx)
      have h2 : y = f ∨ Ltn c f y := by
        rcases List.mem_cons.1 hy with e | hy
        · exact .inl e
        · exact .inr ((List.pairwise_cons.1 hb).1 y hy)
      rcases h1 with rfl | h1
      · rcases h2 with rfl | h2
        · exact hlf
        · exact hlf.trans hc h2
      · rcases h2 with rfl | h2
        · exact h1.trans hc hlf
        · exact (h1.trans hc hlf).trans hc h2
/-- MERGE: four parts, of which two and two are merged -/
theorem merge_parts {c : Nat → Nat → Int} {A1 A2 B1 B2 C1 C2 : List Nat} (hA : StL c (A1 ++ A2)) (hB : StL c (B1 ++ B2)) (h1 : ∀ x ∈ A1, ∀ y ∈ B2, Ltn c x y) (h2 : ∀ y ∈ B1, ∀ x ∈ A2, Ltn c y x)
    (p1 : C1.Perm (A1 ++ B1)) (p2 : C2.Perm (A2 ++ B2)) (s1 : StL c C1) (s2 : StL c C2) : StL c (C1 ++ C2) ∧ (C1 ++ C2).Perm (A1 ++ A2 ++ (B1 ++ B2)) := by
  refine ⟨List.pairwise_append.2 ⟨s1, s2, fun x hx y hy => ?_⟩, ?_⟩
  · rcases List.mem_append.1 (p1.mem_iff.1 hx) with hx | hx <;> rcases List.mem_append.1 (p2.mem_iff.1 hy) with hy | hy
    · exact hA.cross x hx y hy
    · exact h1 x hx y hy
    · exact h2 x hx y hy
    · exact hB.cross x hx y hy
  · refine (p1.append p2).trans ?_
    rw [List.append_assoc, List.append_assoc]
    refine List.Perm.append_left A1 ?_
    rw [← List.append_assoc, ← List.append_assoc]
    exact List.Perm.append_right B2 List.perm_append_comm
/-- one thing is put among others -/
theorem insert_left {c : Nat → Nat → Int} (hc : SwoL c) {x : Nat} {B1 B2 : List Nat} (hB : StL c (B1 ++ B2)) (hi : ∀ y ∈ B1 ++ B2, x < y) (h1 : ∀ y, B1.getLast? = some y → c y x < 0) (h2 : ∀ y, B2.head? = some y → ¬ c y x < 0) : StL c (B1 ++ x :: B2) ∧ (B1 ++ x :: B2).Perm (x :: (B1 ++ B2)) := by
  have a1 := ahead_of_ends hc hB.left (List.pairwise_singleton (Ltn c) x) (fun p q hp hq => by simp at hq; subst hq; exact .inl (h1 p hp))
  have a2 := ahead_of_ends hc (List.pairwise_singleton (Ltn c) x) hB.right (fun p q hp hq => by
    simp at hp; subst hp
    exact .inr ⟨h2 q hq, hi q (List.mem_append_right _ (List.mem_of_mem_head? hq))⟩)
  refine ⟨List.pairwise_append.2 ⟨hB.left, List.pairwise_cons.2 ⟨fun y hy => a2 x (by simp) y hy, hB.right⟩, fun p hp q hq => ?_⟩, List.perm_middle⟩
  rcases List.mem_cons.1 hq with rfl | hq
  · exact a1 p hp _ (by simp)
  · exact hB.cross p hp q hq
theorem insert_right {c : Nat → Nat → Int} (hc : SwoL c) {y : Nat} {A1 A2 : List Nat} (hA : StL c (A1 ++ A2)) (hi : ∀ x ∈ A1 ++ A2, x < y) (h1 : ∀ x, A1.getLast? = some x → ¬ c y x < 0) (h2 : ∀ x, A2.head? = some x → c y x < 0) : StL c (A1 ++ y :: A2) ∧ (A1 ++ y :: A2).Perm (A1 ++ A2 ++ [y]) := by
  have a1 := ahead_of_ends hc hA.left (List.pairwise_singleton (Ltn c) y) (fun p q hp hq => by
    simp at hq; subst hq
    exact .inr ⟨h1 p hp, hi p (List.mem_append_left _ (List.mem_of_getLast? hp))⟩)
  have a2 := ahead_of_ends hc (List.pairwise_singleton (Ltn c) y) hA.right (fun p q hp hq => by simp at hp; subst hp; exact .inl (h2 q hq))
  refine ⟨List.pairwise_append.2 ⟨hA.left, List.pairwise_cons.2 ⟨fun z hz => a2 y (by simp) z hz, hA.right⟩, fun p hp q hq => ?_⟩, ?_⟩
  · rcases List.mem_cons.1 hq with rfl | hq
    · exact a1 p hp _ (by simp)
    · exact hA.cross p hp q hq
  · rw [List.append_assoc]
    exact List.Perm.append_left A1 (List.perm_append_comm (l₁ := [y]) (l₂ := A2))
end Go.Proofs.Ytbkknpodipapoaa
