/- The stable sort by parts: one thing put in its place, blocks. Plain lemmas, no program. -/
import Derived.Test.YtbkknpodipapoaaVsR
namespace Go.Proofs.Ytbkknpodipapoaa

theorem RotIs.none (g : Nat → Nat) (a b : Nat) : RotIs g g a a b := ⟨fun _ _ => rfl, fun _ _ => rfl, fun t h => by omega⟩
theorem RotIs.noneR (g : Nat → Nat) (a b : Nat) : RotIs g g a b b := ⟨fun _ _ => rfl, fun t h => by omega, fun t _ => by rw [Nat.sub_self, Nat.add_zero]⟩
/-- the first thing goes on by one place -/
theorem RotIs.up {f g : Nat → Nat} {a k : Nat} (h : RotIs f g a (a + 1) (k + 1)) (hk : a ≤ k) : RotIs f (sw2 g k (k + 1)) a (a + 1) (k + 2) := by
  have hx : g k = f a := by
    have := h.snd 0 (by omega)
    rw [show a + (k + 1 - (a + 1)) + 0 = k by omega] at this
    exact this
  have hy : g (k + 1) = f (k + 1) := h.out _ (by omega)
  refine ⟨fun p hp => ?_, fun t ht => ?_, fun t ht => ?_⟩
  · unfold sw2
    rw [if_neg (by omega), if_neg (by omega)]
    exact h.out p (by omega)
  · unfold sw2
    by_cases e : a + t = k
    · rw [if_pos e, hy]
      congr 1
      omega
    · rw [if_neg e, if_neg (by omega)]
      exact h.fst t (by omega)
  · obtain rfl : t = 0 := by omega
    unfold sw2
    rw [if_neg (by omega), if_pos (by omega), hx]
    congr 1
/-- the last thing goes down by one place -/
theorem RotIs.down {f g : Nat → Nat} {k m : Nat} (h : RotIs f g k m (m + 1)) (hk : 0 < k) (hm : k ≤ m) : RotIs f (sw2 g k (k - 1)) (k - 1) m (m + 1) := by
  have hx : g k = f m := by
    have := h.fst 0 (by omega)
    simpa using this
  have hy : g (k - 1) = f (k - 1) := h.out _ (by omega)
  refine ⟨fun p hp => ?_, fun t ht => ?_, fun t ht => ?_⟩
  · unfold sw2
    rw [if_neg (by omega), if_neg (by omega)]
    exact h.out p (by omega)
  · obtain rfl : t = 0 := by omega
    unfold sw2
    rw [if_neg (by omega), if_pos (by omega), hx]
    congr 1
  · unfold sw2
    by_cases e : t = 0
    · subst e
      rw [if_pos (by omega), hy]
      congr 1
    · obtain ⟨s, rfl⟩ : ∃ s, t = s + 1 := ⟨t - 1, by omega⟩
      rw [if_neg (by omega), if_neg (by omega)]
      have := h.snd s (by omega)
      rw [show k - 1 + (m + 1 - m) + (s + 1) = k + (m + 1 - m) + s by omega, this]
      congr 1
      omega
section
variable {c : Nat → Nat → Int}
/-- one thing is put among those behind it -/
theorem merge_one_left (hc : SwoL c) {f h : Nat → Nat} {a b i : Nat} (hok : MergeOk c f a (a + 1) b) (h1 : a + 1 ≤ i) (h2 : i ≤ b) (q1 : a + 1 < i → c (f (i - 1)) (f a) < 0) (q2 : i < b → ¬ c (f i) (f a) < 0) (hr : RotIs f h a (a + 1) i) : MergeIs c f h a b := by
  have eB : seg f (a + 1) (b - (a + 1)) = seg f (a + 1) (i - (a + 1)) ++ seg f i (b - i) := seg_two f h1 h2
  have hB := hok.hi
  rw [eB] at hB
  have e1 : seg h a (i - (a + 1)) = seg f (a + 1) (i - (a + 1)) := seg_congr fun t ht => hr.fst t ht
  have e2 : h (i - 1) = f a := by
    have := hr.snd 0 (by omega)
    rw [show a + (i - (a + 1)) + 0 = i - 1 by omega] at this
    exact this
  have e3 : seg h i (b - i) = seg f i (b - i) := seg_congr fun t ht => hr.out _ (by omega)
  have es : seg h a (b - a) = seg f (a + 1) (i - (a + 1)) ++ f a :: seg f i (b - i) := by
    rw [seg_two h (show a ≤ i - 1 by omega) (show i - 1 ≤ b by omega), show i - 1 - a = i - (a + 1) by omega, e1, show b - (i - 1) = (b - i) + 1 by omega, seg_succ, e2, show i - 1 + 1 = i by omega, e3]
  have hnum : ∀ y ∈ seg f (a + 1) (i - (a + 1)) ++ seg f i (b - i), f a < y := fun y hy => by
    rw [← eB] at hy
    obtain ⟨t, ht, rfl⟩ := seg_mem hy
    exact hok.num _ _ (Nat.le_refl _) (by omega) (by omega) (by omega)
  obtain ⟨r1, r2⟩ := insert_left hc (x := f a) hB hnum (fun y hy => by
    obtain ⟨k1, rfl⟩ := seg_last hy
    rw [show a + 1 + (i - (a + 1)) - 1 = i - 1 by omega]
    exact q1 (by omega)) (fun y hy => by
    obtain ⟨k1, rfl⟩ := seg_head hy
    exact q2 (by omega))
  refine ⟨fun p hp => hr.out p (by omega), by rw [es]; exact r1, ?_⟩
  rw [es, seg_two f hok.am hok.mb, show a + 1 - a = 1 by omega, eB]
  exact r2
/-- one thing is put among those ahead of it -/
theorem merge_one_right (hc : SwoL c) {f h : Nat → Nat} {a m i : Nat} (hok : MergeOk c f a m (m + 1)) (h1 : a ≤ i) (h2 : i ≤ m) (q1 : a < i → ¬ c (f m) (f (i - 1)) < 0) (q2 : i < m → c (f m) (f i) < 0) (hr : RotIs f h i m (m + 1)) : MergeIs c f h a (m + 1) := by
  have eA : seg f a (m - a) = seg f a (i - a) ++ seg f i (m - i) := seg_two f h1 h2
  have hA := hok.lo
  rw [eA] at hA
  have e1 : seg h a (i - a) = seg f a (i - a) := seg_congr fun t ht => hr.out _ (by omega)
  have e2 : h i = f m := by
    have := hr.fst 0 (by omega)
    simpa using this
  have e3 : seg h (i + 1) (m - i) = seg f i (m - i) := seg_congr fun t ht => by
    have := hr.snd t (by omega)
    rw [show i + (m + 1 - m) + t = i + 1 + t by omega] at this
    exact this
  have es : seg h a (m + 1 - a) = seg f a (i - a) ++ f m :: seg f i (m - i) := by
    rw [seg_two h h1 (show i ≤ m + 1 by omega), e1, show m + 1 - i = (m - i) + 1 by omega, seg_succ, e2, e3]
  have hnum : ∀ x ∈ seg f a (i - a) ++ seg f i (m - i), x < f m := fun x hx => by
    rw [← eA] at hx
    obtain ⟨t, ht, rfl⟩ := seg_mem hx
    exact hok.num _ _ (by omega) (by omega) (Nat.le_refl _) (by omega)
  obtain ⟨r1, r2⟩ := insert_right hc (y := f m) hA hnum (fun y hy => by
    obtain ⟨k1, rfl⟩ := seg_last hy
    rw [show a + (i - a) - 1 = i - 1 by omega]
    exact q1 (by omega)) (fun y hy => by
    obtain ⟨k1, rfl⟩ := seg_head hy
    exact q2 (by omega))
  refine ⟨fun p hp => hr.out p (by omega), by rw [es]; exact r1, ?_⟩
  rw [es, seg_two f hok.am hok.mb, show m + 1 - m = 1 by omega, eA]
  exact r2
/-- a segment of numbers that rise -/
theorem insert_step {f g : Nat → Nat} {a i : Nat} (ha : a ≤ i) (hg : MergeIs c f g a i) (hn : ∀ p q, a ≤ p → p < q → q ≤ i → f p < f q) : MergeOk c g a i (i + 1) := by
  refine ⟨ha, by omega, hg.st, by rw [show i + 1 - i = 1 by omega]; exact List.pairwise_singleton _ _, fun p q h1 h2 h3 h4 => ?_⟩
  obtain rfl : q = i := by omega
  rw [hg.out q (by omega)]
  have hm : g p ∈ seg g a (q - a) := by
    have := mem_seg (f := g) (a := a) (n := q - a) (t := p - a) (by omega)
    rwa [show a + (p - a) = p by omega] at this
  obtain ⟨t, ht, e⟩ := seg_mem (hg.perm.mem_iff.1 hm)
  rw [e]
  exact hn _ _ (by omega) (by omega) (Nat.le_refl _)
theorem MergeIs.next {f g h : Nat → Nat} {a i : Nat} (ha : a ≤ i) (hg : MergeIs c f g a i) (hh : MergeIs c g h a (i + 1)) : MergeIs c f h a (i + 1) := by
  refine ⟨fun p hp => by rw [hh.out p hp, hg.out p (by omega)], hh.st, hh.perm.trans ?_⟩
  rw [show i + 1 - a = (i - a) + 1 by omega, seg_snoc, seg_snoc, show a + (i - a) = i by omega, hg.out i (by omega)]
  exact hg.perm.append_right _
/-- a block that is sorted: it holds the things that it held first -/
structure Bk (c : Nat → Nat → Int) (h : Nat → Nat) (a b : Nat) : Prop where
  st : StL c (seg h a (b - a))
  perm : (seg h a (b - a)).Perm (List.range' a (b - a))
theorem seg_id (a n : Nat) : seg id a n = List.range' a n := by simp [seg]
theorem Bk.mem {h : Nat → Nat} {a b p : Nat} (hb : Bk c h a b) (h1 : a ≤ p) (h2 : p < b) : a ≤ h p ∧ h p < b := by
  have hm : h p ∈ seg h a (b - a) := by
    have := mem_seg (f := h) (a := a) (n := b - a) (t := p - a) (by omega)
    rwa [show a + (p - a) = p by omega] at this
  have := hb.perm.mem_iff.1 hm
  rw [List.mem_range'_1] at this
  omega
theorem Bk.ok {h : Nat → Nat} {a m b : Nat} (h1 : a ≤ m) (h2 : m ≤ b) (hl : Bk c h a m) (hr : Bk c h m b) : MergeOk c h a m b :=
  ⟨h1, h2, hl.st, hr.st, fun p q p1 p2 q1 q2 => by have := hl.mem p1 p2; have := hr.mem q1 q2; omega⟩
theorem Bk.merge {h h' : Nat → Nat} {a m b : Nat} (h1 : a ≤ m) (h2 : m ≤ b) (hl : Bk c h a m) (hr : Bk c h m b) (hm : MergeIs c h h' a b) : Bk c h' a b := by
  refine ⟨hm.st, hm.perm.trans ?_⟩
  rw [seg_two h h1 h2, show b - a = (m - a) + (b - m) by omega, ← List.range'_append_1, show a + (m - a) = m by omega]
  exact hl.perm.append hr.perm
theorem Bk.keep {h h' : Nat → Nat} {a b x y : Nat} (hb : Bk c h a b) (hm : ∀ p, p < x ∨ y ≤ p → h' p = h p) (hd : b ≤ x ∨ y ≤ a) : Bk c h' a b := by
  have e : seg h' a (b - a) = seg h a (b - a) := seg_congr fun t ht => hm _ (by omega)
  exact ⟨by rw [e]; exact hb.st, by rw [e]; exact hb.perm⟩
/-- a block that is sorted in its place out of what was there first -/
theorem Bk.first {h h' : Nat → Nat} {a b : Nat} (hi : ∀ p, a ≤ p → p < b → h p = p) (hm : MergeIs c h h' a b) : Bk c h' a b := by
  refine ⟨hm.st, hm.perm.trans ?_⟩
  have e : seg h a (b - a) = List.range' a (b - a) := by
    rw [← seg_id]
    exact seg_congr fun t ht => hi _ (by omega) (by omega)
  rw [e]
/-- all of it: the stable order is one -/
theorem Bk.all (hc : SwoL c) {h h' : Nat → Nat} {n : Nat} (h1 : Bk c h 0 n) (h2 : Bk c h' 0 n) : ∀ p, p < n → h p = h' p := by
  have e := StL.uniq hc h1.st h2.st (h1.perm.trans h2.perm.symm)
  intro p hp
  have a1 : (seg h 0 (n - 0))[p]? = some (h p) := by simp [seg, hp]
  have a2 : (seg h' 0 (n - 0))[p]? = some (h' p) := by simp [seg, hp]
  rw [e, a2] at a1
  simpa using a1.symm
end
end Go.Proofs.Ytbkknpodipapoaa
