/- Rows told by a function from places: swaps, rotations, segments. Plain lemmas, no program. -/
import Derived.Test.YtbkknpodipapoaaVsM
namespace Go.Proofs.Ytbkknpodipapoaa

/-- two ranges of n are exchanged -/
structure Sw (g g' : Nat → Nat) (x y n : Nat) : Prop where
  out : ∀ p, ¬ (x ≤ p ∧ p < x + n) → ¬ (y ≤ p ∧ p < y + n) → g' p = g p
  fst : ∀ t, t < n → g' (x + t) = g (y + t)
  snd : ∀ t, t < n → g' (y + t) = g (x + t)
theorem Sw.zero (g : Nat → Nat) (x y : Nat) : Sw g g x y 0 := ⟨fun _ _ _ => rfl, fun t h => by omega, fun t h => by omega⟩
def sw2 (g : Nat → Nat) (i j p : Nat) : Nat := if p = i then g j else if p = j then g i else g p
theorem Sw.step {g g' : Nat → Nat} {x y n : Nat} (h : Sw g g' x y n) (hd : x + n < y ∨ y + n < x) : Sw g (sw2 g' (x + n) (y + n)) x y (n + 1) := by
  have hx : g' (x + n) = g (x + n) := h.out _ (by omega) (by omega)
  have hy : g' (y + n) = g (y + n) := h.out _ (by omega) (by omega)
  refine ⟨fun p h1 h2 => ?_, fun t ht => ?_, fun t ht => ?_⟩
  · unfold sw2
    rw [if_neg (by omega), if_neg (by omega)]
    exact h.out p (by omega) (by omega)
  · unfold sw2
    by_cases e : t = n
    · subst e; rw [if_pos rfl, hy]
    · rw [if_neg (by omega), if_neg (by omega)]
      exact h.fst t (by omega)
  · unfold sw2
    by_cases e : t = n
    · subst e; rw [if_neg (by omega), if_pos rfl, hx]
    · rw [if_neg (by omega), if_neg (by omega)]
      exact h.snd t (by omega)
/-- what stands from a to m changes place with what stands from m to b -/
structure RotIs (g h : Nat → Nat) (a m b : Nat) : Prop where
  out : ∀ p, p < a ∨ b ≤ p → h p = g p
  fst : ∀ t, t < b - m → h (a + t) = g (m + t)
  snd : ∀ t, t < m - a → h (a + (b - m) + t) = g (a + t)
theorem rot_more {g g' h : Nat → Nat} {m i j : Nat} (hi : i ≤ m) (hij : j < i) (hs : Sw g g' (m - i) m j) (hr : RotIs g' h (m - i + j) m (m + j)) : RotIs g h (m - i) m (m + j) := by
  refine ⟨fun p hp => ?_, fun t ht => ?_, fun t ht => ?_⟩
  · rw [hr.out p (by omega), hs.out p (by omega) (by omega)]
  · rw [hr.out _ (by omega), hs.fst t (by omega)]
  · by_cases e : t < j
    · have h1 := hr.fst t (by omega)
      rw [show m - i + (m + j - m) + t = m - i + j + t by omega, h1, hs.snd t e]
    · obtain ⟨s, rfl⟩ : ∃ s, t = j + s := ⟨t - j, by omega⟩
      have h1 := hr.snd s (by omega)
      rw [show m - i + (m + j - m) + (j + s) = m - i + j + (m + j - m) + s by omega, h1, hs.out _ (by omega) (by omega)]
      congr 1
      omega
theorem rot_less {g g' h : Nat → Nat} {m i j : Nat} (hi : i ≤ m) (hij : i < j) (hs : Sw g g' (m - i) (m + j - i) i) (hr : RotIs g' h (m - i) m (m + (j - i))) : RotIs g h (m - i) m (m + j) := by
  refine ⟨fun p hp => ?_, fun t ht => ?_, fun t ht => ?_⟩
  · rw [hr.out p (by omega), hs.out p (by omega) (by omega)]
  · by_cases e : t < j - i
    · have h1 := hr.fst t (by omega)
      rw [h1, hs.out _ (by omega) (by omega)]
    · obtain ⟨s, rfl⟩ : ∃ s, t = j - i + s := ⟨t - (j - i), by omega⟩
      have h1 := hr.snd s (by omega)
      rw [show m - i + (j - i + s) = m - i + (m + (j - i) - m) + s by omega, h1, hs.fst s (by omega)]
      congr 1
      omega
  · rw [hr.out _ (by omega), show m - i + (m + j - m) + t = m + j - i + t by omega, hs.snd t (by omega)]
theorem rot_last {g g' : Nat → Nat} {m i : Nat} (hi : i ≤ m) (hs : Sw g g' (m - i) m i) : RotIs g g' (m - i) m (m + i) := by
  refine ⟨fun p hp => hs.out p (by omega) (by omega), fun t ht => hs.fst t (by omega), fun t ht => ?_⟩
  rw [show m - i + (m + i - m) + t = m + t by omega, hs.snd t (by omega)]

/-- a segment -/
def seg (f : Nat → Nat) (a n : Nat) : List Nat := (List.range' a n).map f
theorem seg_length (f : Nat → Nat) (a n : Nat) : (seg f a n).length = n := by simp [seg]
theorem seg_zero (f : Nat → Nat) (a : Nat) : seg f a 0 = [] := rfl
theorem seg_succ (f : Nat → Nat) (a n : Nat) : seg f a (n + 1) = f a :: seg f (a + 1) n := by simp [seg, List.range'_succ]
theorem seg_append (f : Nat → Nat) (a i j : Nat) : seg f a (i + j) = seg f a i ++ seg f (a + i) j := by
  unfold seg
  rw [← List.range'_append_1, List.map_append]
theorem seg_snoc (f : Nat → Nat) (a n : Nat) : seg f a (n + 1) = seg f a n ++ [f (a + n)] := by rw [seg_append]; rfl
theorem seg_congr {f g : Nat → Nat} {a b n : Nat} (h : ∀ t, t < n → f (a + t) = g (b + t)) : seg f a n = seg g b n := by
  induction n with
  | zero => rfl
  | succ n ih => rw [seg_snoc, seg_snoc, ih (fun t ht => h t (by omega)), h n (by omega)]
theorem seg_mem {f : Nat → Nat} {a n x : Nat} (h : x ∈ seg f a n) : ∃ t, t < n ∧ x = f (a + t) := by
  unfold seg at h
  obtain ⟨p, hp, rfl⟩ := List.mem_map.1 h
  rw [List.mem_range'_1] at hp
  exact ⟨p - a, by omega, by congr 1; omega⟩
theorem mem_seg {f : Nat → Nat} {a n t : Nat} (h : t < n) : f (a + t) ∈ seg f a n := by
  unfold seg
  exact List.mem_map_of_mem (by rw [List.mem_range'_1]; omega)
theorem seg_last {f : Nat → Nat} {a n x : Nat} (h : (seg f a n).getLast? = some x) : 0 < n ∧ x = f (a + n - 1) := by
  cases n with
  | zero => simp [seg] at h
  | succ n =>
    rw [seg_snoc] at h
    simp at h
    exact ⟨by omega, h.symm⟩
theorem seg_head {f : Nat → Nat} {a n x : Nat} (h : (seg f a n).head? = some x) : 0 < n ∧ x = f a := by
  cases n with
  | zero => simp [seg] at h
  | succ n =>
    rw [seg_succ] at h
    simp at h
    exact ⟨by omega, h.symm⟩
/-- what a merge of two neighbours gives -/
structure MergeIs (c : Nat → Nat → Int) (f h : Nat → Nat) (a b : Nat) : Prop where
  out : ∀ p, p < a ∨ b ≤ p → h p = f p
  st : StL c (seg h a (b - a))
  perm : (seg h a (b - a)).Perm (seg f a (b - a))
/-- two neighbours that may be merged -/
structure MergeOk (c : Nat → Nat → Int) (f : Nat → Nat) (a m b : Nat) : Prop where
  am : a ≤ m
  mb : m ≤ b
  lo : StL c (seg f a (m - a))
  hi : StL c (seg f m (b - m))
  num : ∀ p q, a ≤ p → p < m → m ≤ q → q < b → f p < f q
theorem seg_two (f : Nat → Nat) {a m b : Nat} (h1 : a ≤ m) (h2 : m ≤ b) : seg f a (b - a) = seg f a (m - a) ++ seg f m (b - m) := by
  rw [show b - a = (m - a) + (b - m) by omega, seg_append, show a + (m - a) = m by omega]
/-- nothing is to be done where one part is empty -/
theorem MergeOk.left {c : Nat → Nat → Int} {f : Nat → Nat} {a b : Nat} (h : MergeOk c f a a b) : MergeIs c f f a b := ⟨fun _ _ => rfl, h.hi, List.Perm.refl _⟩
theorem MergeOk.rightE {c : Nat → Nat → Int} {f : Nat → Nat} {a b : Nat} (h : MergeOk c f a b b) : MergeIs c f f a b := ⟨fun _ _ => rfl, h.lo, List.Perm.refl _⟩
/-- THE STEP OF symMerge: s, e where it is rotated, mid; both halves are merged -/
theorem merge_step {c : Nat → Nat → Int} (hc : SwoL c) {f g h1 h2 : Nat → Nat} {a s m e b mid : Nat} (hok : MergeOk c f a m b) (hs : a ≤ s) (hsm : s ≤ m) (hme : m ≤ e) (heb : e ≤ b) (hmid : mid = s + (e - m))
    (q1 : a < s → e < b → ¬ c (f e) (f (s - 1)) < 0) (q2 : m < e → s < m → c (f (e - 1)) (f s) < 0) (hr : RotIs f g s m e) :
    MergeOk c g a s mid ∧ (MergeIs c g h1 a mid → MergeOk c h1 mid e b ∧ (MergeIs c h1 h2 mid b → MergeIs c f h2 a b)) := by
  have eA : seg f a (m - a) = seg f a (s - a) ++ seg f s (m - s) := seg_two f hs hsm
  have eB : seg f m (b - m) = seg f m (e - m) ++ seg f e (b - e) := seg_two f hme heb
  have hA := hok.lo
  have hB := hok.hi
  rw [eA] at hA
  rw [eB] at hB
  have gA1 : seg g a (s - a) = seg f a (s - a) := seg_congr fun t ht => hr.out _ (by omega)
  have gB1 : seg g s (mid - s) = seg f m (e - m) := by
    rw [show mid - s = e - m by omega]
    exact seg_congr fun t ht => hr.fst t (by omega)
  have gA2 : seg g mid (e - mid) = seg f s (m - s) := by
    rw [show e - mid = m - s by omega, hmid]
    exact seg_congr fun t ht => hr.snd t (by omega)
  have gB2 : seg g e (b - e) = seg f e (b - e) := seg_congr fun t ht => hr.out _ (by omega)
  have num1 : ∀ x ∈ seg f a (m - a), ∀ y ∈ seg f m (b - m), x < y := fun x hx y hy => by
    obtain ⟨t, ht, rfl⟩ := seg_mem hx
    obtain ⟨u, hu, rfl⟩ := seg_mem hy
    exact hok.num _ _ (by omega) (by omega) (by omega) (by omega)
  rw [eA, eB] at num1
  have c1 : ∀ x ∈ seg f a (s - a), ∀ y ∈ seg f e (b - e), Ltn c x y := ahead_of_ends hc hA.left hB.right fun x y hx hy => by
    obtain ⟨k1, rfl⟩ := seg_last hx
    obtain ⟨k2, rfl⟩ := seg_head hy
    have hq := q1 (by omega) (by omega)
    rw [show a + (s - a) - 1 = s - 1 by omega]
    exact .inr ⟨hq, hok.num _ _ (by omega) (by omega) (by omega) (by omega)⟩
  have c2 : ∀ y ∈ seg f m (e - m), ∀ x ∈ seg f s (m - s), Ltn c y x := ahead_of_ends hc hB.left hA.right fun x y hx hy => by
    obtain ⟨k1, rfl⟩ := seg_last hx
    obtain ⟨k2, rfl⟩ := seg_head hy
    have hq := q2 (by omega) (by omega)
    rw [show m + (e - m) - 1 = e - 1 by omega]
    exact .inl hq
  refine ⟨⟨hs, by omega, by rw [gA1]; exact hA.left, by rw [gB1]; exact hB.left, fun p q h1 h2 h3 h4 => ?_⟩, fun m1 => ?_⟩
  · have e1 : g p = f p := hr.out p (by omega)
    have e2 := hr.fst (q - s) (by omega)
    rw [show s + (q - s) = q by omega] at e2
    rw [e1, e2]
    exact hok.num _ _ (by omega) (by omega) (by omega) (by omega)
  · have k2 : seg h1 mid (e - mid) = seg f s (m - s) := by
      rw [← gA2]
      exact seg_congr fun t ht => m1.out _ (by omega)
    have k3 : seg h1 e (b - e) = seg f e (b - e) := by
      rw [← gB2]
      exact seg_congr fun t ht => m1.out _ (by omega)
    refine ⟨⟨by omega, heb, by rw [k2]; exact hA.right, by rw [k3]; exact hB.right, fun p q h1' h2' h3' h4' => ?_⟩, fun m2 => ?_⟩
    · have e1 : h1 p = g p := m1.out p (by omega)
      have e2 : h1 q = g q := m1.out q (by omega)
      have e3 := hr.snd (p - mid) (by omega)
      rw [show s + (e - m) + (p - mid) = p by omega] at e3
      rw [e1, e2, e3, hr.out q (by omega)]
      exact hok.num _ _ (by omega) (by omega) (by omega) (by omega)
    · have p1 : (seg h1 a (mid - a)).Perm (seg f a (s - a) ++ seg f m (e - m)) := by
        have := m1.perm
        rw [seg_two g hs (show s ≤ mid by omega), gA1, gB1] at this
        exact this
      have p2 : (seg h2 mid (b - mid)).Perm (seg f s (m - s) ++ seg f e (b - e)) := by
        have := m2.perm
        rw [seg_two h1 (show mid ≤ e by omega) heb, k2, k3] at this
        exact this
      have eh : seg h2 a (mid - a) = seg h1 a (mid - a) := seg_congr fun t ht => m2.out _ (by omega)
      have hmg := merge_parts hA hB c1 c2 p1 p2 m1.st m2.st
      refine ⟨fun p hp => ?_, ?_, ?_⟩
      · rw [m2.out p (by omega), m1.out p (by omega), hr.out p (by omega)]
      · rw [seg_two h2 (show a ≤ mid by omega) (show mid ≤ b by omega), eh]
        exact hmg.1
      · rw [seg_two h2 (show a ≤ mid by omega) (show mid ≤ b by omega), eh, seg_two f hok.am hok.mb, eA, eB]
        exact hmg.2
end Go.Proofs.Ytbkknpodipapoaa
