/- Blocks of a stable sort, plain. -/
import Derived.Test.YtbkknpodipapoaaVsB
namespace Go.Proofs.Ytbkknpodipapoaa
set_option linter.unusedVariables false
section
variable {c : Nat → Nat → Int}
/-- from a on all blocks of s are sorted -/
def SegS (c : Nat → Nat → Int) (h : Nat → Nat) (s n a : Nat) : Prop := ∀ j, a + j * s < n → Bk c h (a + j * s) (min (a + j * s + s) n)
/-- up to a all blocks of s are sorted -/
def PreS (c : Nat → Nat → Int) (h : Nat → Nat) (s a : Nat) : Prop := (∃ k, a = k * s) ∧ ∀ j, j * s + s ≤ a → Bk c h (j * s) (j * s + s)
theorem PreS.zero (c : Nat → Nat → Int) (h : Nat → Nat) {s : Nat} (hs : 0 < s) : PreS c h s 0 := ⟨⟨0, by simp⟩, fun j hj => by omega⟩
theorem SegS.head {h : Nat → Nat} {s n a : Nat} (H : SegS c h s n a) (ha : a < n) : Bk c h a (min (a + s) n) := by
  have := H 0 (by simpa using ha)
  simpa using this
theorem SegS.tail {h : Nat → Nat} {s n a : Nat} (H : SegS c h s n a) : SegS c h s n (a + s) := fun j hj => by
  have := H (j + 1) (by rw [Nat.succ_mul]; omega)
  rwa [Nat.succ_mul, show a + (j * s + s) = a + s + j * s by omega] at this
theorem SegS.keep {h h' : Nat → Nat} {s n a : Nat} (H : SegS c h s n a) (hm : ∀ p, a ≤ p → h' p = h p) : SegS c h' s n a := fun j hj =>
  (H j hj).keep (x := 0) (y := a) (fun p hp => hm p (by omega)) (.inr (by omega))
theorem PreS.keep {h h' : Nat → Nat} {s a : Nat} (H : PreS c h s a) (hm : ∀ p, p < a → h' p = h p) : PreS c h' s a := ⟨H.1, fun j hj => by
  have e : seg h' (j * s) (j * s + s - j * s) = seg h (j * s) (j * s + s - j * s) := seg_congr fun t ht => hm _ (by omega)
  have hb := H.2 j hj
  exact ⟨by rw [e]; exact hb.st, by rw [e]; exact hb.perm⟩⟩
theorem mul_cases {s a j : Nat} (hk : ∃ k, a = k * s) : j * s + s ≤ a ∨ j * s = a ∨ a + s ≤ j * s := by
  obtain ⟨k, rfl⟩ := hk
  rcases Nat.lt_trichotomy j k with h | h | h
  · left
    have := Nat.mul_le_mul_right s (show j + 1 ≤ k from h)
    rwa [Nat.succ_mul] at this
  · right; left; rw [h]
  · right; right
    have := Nat.mul_le_mul_right s (show k + 1 ≤ j from h)
    rwa [Nat.succ_mul] at this
theorem PreS.next {h : Nat → Nat} {s a : Nat} (hs : 0 < s) (H : PreS c h s a) (hb : Bk c h a (a + s)) : PreS c h s (a + s) := by
  obtain ⟨k, hk⟩ := H.1
  refine ⟨⟨k + 1, by rw [Nat.succ_mul, hk]⟩, fun j hj => ?_⟩
  rcases mul_cases (j := j) H.1 with h1 | h1 | h1
  · exact H.2 j h1
  · rw [h1]; exact hb
  · omega
theorem PreS.done {h : Nat → Nat} {s a n : Nat} (H : PreS c h s a) (hn : n ≤ a + s) (hs : 0 < s) (han : a ≤ n) (hb : a < n → Bk c h a n) : SegS c h s n 0 := fun j hj => by
  rw [Nat.zero_add] at hj ⊢
  rcases mul_cases (j := j) H.1 with h1 | h1 | h1
  · rw [show min (j * s + s) n = j * s + s by omega]; exact H.2 j h1
  · rw [h1, show min (a + s) n = n by omega]; exact hb (by omega)
  · omega
theorem Bk.none (c : Nat → Nat → Int) (h : Nat → Nat) (a : Nat) : Bk c h a a := by
  refine ⟨?_, ?_⟩
  · rw [Nat.sub_self]; exact List.Pairwise.nil
  · rw [Nat.sub_self]; exact List.Perm.refl _
theorem SegS.all {h : Nat → Nat} {s n : Nat} (H : SegS c h s n 0) (hn : n ≤ s) : Bk c h 0 n := by
  rcases Nat.eq_zero_or_pos n with rfl | h0
  · exact Bk.none _ _ _
  · have := H.head h0
    rwa [show min (0 + s) n = n by omega] at this
/-- the first round: blocks put in order in their places -/
theorem first_step {h h' : Nat → Nat} {s a : Nat} (hs : 0 < s) (H : PreS c h s a) (hi : ∀ p, a ≤ p → h p = p) (hm : MergeIs c h h' a (a + s)) : PreS c h' s (a + s) ∧ ∀ p, a + s ≤ p → h' p = p :=
  ⟨(H.keep fun p hp => hm.out p (.inl hp)).next hs (Bk.first (fun p h1 _ => hi p h1) hm), fun p hp => by rw [hm.out p (.inr hp)]; exact hi p (by omega)⟩
theorem first_last {h h' : Nat → Nat} {s a n : Nat} (hs : 0 < s) (H : PreS c h s a) (hi : ∀ p, a ≤ p → h p = p) (han : a ≤ n) (hn : n ≤ a + s) (hm : MergeIs c h h' a n) : SegS c h' s n 0 :=
  (H.keep fun p hp => hm.out p (.inl hp)).done hn hs han fun _ => Bk.first (fun p h1 _ => hi p h1) hm
/-- a round of merges -/
theorem round_ok {h : Nat → Nat} {s a n : Nat} (H : SegS c h s n a) (hs : 0 < s) (hn : a + 2 * s ≤ n) : MergeOk c h a (a + s) (a + 2 * s) := by
  have h1 := H.head (by omega)
  have h2 := H.tail.head (by omega)
  rw [show min (a + s) n = a + s by omega] at h1
  rw [show min (a + s + s) n = a + 2 * s by omega] at h2
  exact Bk.ok (by omega) (by omega) h1 h2
theorem round_step {h h' : Nat → Nat} {s a n : Nat} (hs : 0 < s) (HP : PreS c h (2 * s) a) (H : SegS c h s n a) (hn : a + 2 * s ≤ n) (hm : MergeIs c h h' a (a + 2 * s)) : PreS c h' (2 * s) (a + 2 * s) ∧ SegS c h' s n (a + 2 * s) := by
  have h1 := H.head (by omega)
  have h2 := H.tail.head (by omega)
  rw [show min (a + s) n = a + s by omega] at h1
  rw [show min (a + s + s) n = a + 2 * s by omega] at h2
  refine ⟨(HP.keep fun p hp => hm.out p (.inl hp)).next (by omega) (Bk.merge (by omega) (by omega) h1 h2 hm), ?_⟩
  have h3 := H.tail.tail
  rw [show a + s + s = a + 2 * s by omega] at h3
  exact h3.keep fun p hp => hm.out p (.inr hp)
theorem last_ok {h : Nat → Nat} {s a n : Nat} (H : SegS c h s n a) (hs : 0 < s) (h1 : a + s < n) (h2 : n ≤ a + 2 * s) : MergeOk c h a (a + s) n := by
  have e1 := H.head (by omega)
  have e2 := H.tail.head (by omega)
  rw [show min (a + s) n = a + s by omega] at e1
  rw [show min (a + s + s) n = n by omega] at e2
  exact Bk.ok (by omega) (by omega) e1 e2
theorem last_step {h h' : Nat → Nat} {s a n : Nat} (hs : 0 < s) (HP : PreS c h (2 * s) a) (H : SegS c h s n a) (h1 : a + s < n) (h2 : n ≤ a + 2 * s) (hm : MergeIs c h h' a n) : SegS c h' (2 * s) n 0 := by
  have e1 := H.head (by omega)
  have e2 := H.tail.head (by omega)
  rw [show min (a + s) n = a + s by omega] at e1
  rw [show min (a + s + s) n = n by omega] at e2
  exact (HP.keep fun p hp => hm.out p (.inl hp)).done h2 (by omega) (by omega) fun _ => Bk.merge (by omega) (by omega) e1 e2 hm
theorem last_none {h : Nat → Nat} {s a n : Nat} (hs : 0 < s) (HP : PreS c h (2 * s) a) (H : SegS c h s n a) (han : a ≤ n) (h1 : n ≤ a + s) : SegS c h (2 * s) n 0 :=
  HP.done (by omega) (by omega) han fun hlt => by
    have e1 := H.head hlt
    rwa [show min (a + s) n = n by omega] at e1
end
end Go.Proofs.Ytbkknpodipapoaa
