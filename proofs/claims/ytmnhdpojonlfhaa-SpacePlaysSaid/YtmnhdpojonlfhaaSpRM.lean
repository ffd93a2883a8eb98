/- Marks of sectors: plain lemmas, no program. -/
import Derived.Test.YtmnhdpojonlfhaaSpPF
namespace Go.Proofs.Ytmnhdpojonlfhaa

def mk (bs : List Bool) (x : Nat) : Bool := bs.getD x false
/-- all of a stretch -/
def allB (p : Nat → Bool) (a k : Nat) : Bool := (List.range k).all fun i => p (a + i)
theorem allB_true {p : Nat → Bool} {a k : Nat} (h : ∀ x, a ≤ x → x < a + k → p x = true) : allB p a k = true := by
  unfold allB
  rw [List.all_eq_true]
  intro i hi
  exact h (a + i) (by omega) (by have := List.mem_range.1 hi; omega)
theorem allB_false {p : Nat → Bool} {a k x : Nat} (h1 : a ≤ x) (h2 : x < a + k) (h : p x = false) : allB p a k = false := by
  unfold allB
  rw [List.all_eq_false]
  exact ⟨x - a, List.mem_range.2 (by omega), by rw [show a + (x - a) = x by omega, h]; simp⟩
theorem allB_iff {p : Nat → Bool} {a k : Nat} : allB p a k = true ↔ ∀ x, a ≤ x → x < a + k → p x = true := by
  refine ⟨fun h x h1 h2 => ?_, allB_true⟩
  cases hp : p x with
  | true => rfl
  | false => rw [allB_false h1 h2 hp] at h; cases h
def fullB (bs : List Bool) (a k : Nat) : Bool := allB (mk bs) a k
def freeB (bs : List Bool) (a k : Nat) : Bool := allB (fun x => !mk bs x) a k
/-- what Free answers -/
def freeRB (bs : List Bool) (a m : Int) : Bool := if 0 ≤ a ∧ 1 ≤ m ∧ m ≤ bs.length ∧ a ≤ (bs.length : Int) - m then freeB bs a.toNat m.toNat else false
/-- what Set answers -/
def setL (bs : List Bool) (a k : Nat) (to : Bool) (j : Nat) : List Bool := (List.range j).map fun i => if a ≤ i ∧ i < a + k then to else mk bs i
theorem setL_length (bs : List Bool) (a k : Nat) (to : Bool) (j : Nat) : (setL bs a k to j).length = j := by simp [setL]
theorem setL_step (bs : List Bool) (a k : Nat) (to : Bool) (j : Nat) : setL bs a k to (j + 1) = setL bs a k to j ++ [if a ≤ j ∧ j < a + k then to else mk bs j] := by
  unfold setL
  rw [List.range_succ, List.map_append]
  rfl
theorem mk_setL (bs : List Bool) (a k : Nat) (to : Bool) (j x : Nat) (hx : x < j) : mk (setL bs a k to j) x = if a ≤ x ∧ x < a + k then to else mk bs x := by
  simp [mk, setL, List.getD, hx]
/-- runs of marks -/
def bump (l : List (Nat × Nat)) : List (Nat × Nat) := match l.getLast? with | none => [] | some q => l.dropLast ++ [(q.1, q.2 + 1)]
theorem bump_snoc (o : List (Nat × Nat)) (x y : Nat) : bump (o ++ [(x, y)]) = o ++ [(x, y + 1)] := by simp [bump]
def runsTo (bs : List Bool) : Nat → List (Nat × Nat)
  | 0 => []
  | i + 1 => if mk bs i then (if i = 0 ∨ mk bs (i - 1) = false then runsTo bs i ++ [(i, 1)] else bump (runsTo bs i)) else runsTo bs i
/-- what holds of them -/
structure RunsOk (bs : List Bool) (i : Nat) (l : List (Nat × Nat)) : Prop where
  good : Good i l
  us : ∀ x, Us l x ↔ x < i ∧ mk bs x = true
  last : 0 < i → mk bs (i - 1) = true → ∃ o x y, l = o ++ [(x, y)] ∧ x + y = i
theorem Good.mono {i j : Nat} {l : List (Nat × Nat)} (h : Good i l) (hij : i ≤ j) : Good j l := ⟨fun r hr => by have := h.1 r hr; omega, h.2⟩
theorem runs_ok (bs : List Bool) : ∀ i, RunsOk bs i (runsTo bs i) := by
  intro i
  induction i with
  | zero => exact ⟨⟨by simp [runsTo], by simp [runsTo, Apart]⟩, fun x => by simp [runsTo, Us], fun h => absurd h (by omega)⟩
  | succ i ih =>
    cases hm : mk bs i with
    | false =>
      have e : runsTo bs (i + 1) = runsTo bs i := by rw [runsTo, hm]; rfl
      rw [e]
      refine ⟨ih.good.mono (by omega), fun x => ?_, fun _ h => by rw [Nat.add_sub_cancel, hm] at h; cases h⟩
      rw [ih.us]
      constructor
      · rintro ⟨h1, h2⟩; exact ⟨by omega, h2⟩
      · rintro ⟨h1, h2⟩
        refine ⟨?_, h2⟩
        rcases Nat.lt_or_ge x i with h | h
        · exact h
        · have : x = i := by omega
          subst this; rw [hm] at h2; cases h2
    | true =>
      by_cases hc : i = 0 ∨ mk bs (i - 1) = false
      · have e : runsTo bs (i + 1) = runsTo bs i ++ [(i, 1)] := by rw [runsTo, hm, if_pos rfl, if_pos hc]
        rw [e]
        refine ⟨⟨?_, ?_⟩, fun x => ?_, fun _ _ => ⟨_, i, 1, rfl, rfl⟩⟩
        · intro r hr
          rcases List.mem_append.1 hr with hr | hr
          · have := ih.good.1 r hr; omega
          · rw [List.mem_singleton.1 hr]; dsimp only; omega
        · refine List.pairwise_append.2 ⟨ih.good.2, List.pairwise_singleton _ _, fun a ha b hb => ?_⟩
          rw [List.mem_singleton.1 hb]
          have h1 := ih.good.1 a ha
          have h2 := (ih.us (a.1 + a.2 - 1)).1 ⟨a, ha, by omega, by omega⟩
          rcases hc with hc | hc
          · omega
          · rcases Nat.lt_or_ge (a.1 + a.2) i with h | h
            · exact h
            · rw [show a.1 + a.2 - 1 = i - 1 by omega, hc] at h2
              exact absurd h2.2 (by simp)
        · rw [Us_append, ih.us, Us_one]
          constructor
          · rintro (⟨h1, h2⟩ | ⟨h1, h2⟩)
            · exact ⟨by omega, h2⟩
            · dsimp only at h1 h2
              have : x = i := by omega
              subst this; exact ⟨by omega, hm⟩
          · rintro ⟨h1, h2⟩
            rcases Nat.lt_or_ge x i with h | h
            · exact .inl ⟨h, h2⟩
            · right; dsimp only; omega
      · simp only [not_or, Bool.not_eq_false] at hc
        obtain ⟨o, a, b, ho, hab⟩ := ih.last (by omega) hc.2
        have e : runsTo bs (i + 1) = o ++ [(a, b + 1)] := by rw [runsTo, hm, if_pos rfl, if_neg (by simp only [not_or, Bool.not_eq_false]; exact hc), ho, bump_snoc]
        have hg := ih.good
        rw [ho] at hg
        have hus := ih.us
        rw [ho] at hus
        have hap := List.pairwise_append.1 hg.2
        rw [e]
        refine ⟨⟨?_, ?_⟩, fun x => ?_, fun _ _ => ⟨o, a, b + 1, rfl, by omega⟩⟩
        · intro r hr
          rcases List.mem_append.1 hr with hr | hr
          · have := hg.1 r (by simp [hr]); omega
          · rw [List.mem_singleton.1 hr]; dsimp only; omega
        · refine List.pairwise_append.2 ⟨hap.1, List.pairwise_singleton _ _, fun x hx y hy => ?_⟩
          rw [List.mem_singleton.1 hy]
          exact hap.2.2 x hx (a, b) (by simp)
        · have := hus x
          rw [Us_append, Us_one] at this ⊢
          dsimp only at this ⊢
          constructor
          · rintro (h | ⟨h1, h2⟩)
            · have := this.1 (.inl h); exact ⟨by omega, this.2⟩
            · rcases Nat.lt_or_ge x i with h | h
              · have := this.1 (.inr ⟨h1, by omega⟩); exact ⟨by omega, this.2⟩
              · have e2 : x = i := by omega
                rw [e2]; exact ⟨by omega, hm⟩
          · rintro ⟨h1, h2⟩
            rcases Nat.lt_or_ge x i with h | h
            · rcases this.2 ⟨h, h2⟩ with h3 | h3
              · exact .inl h3
              · exact .inr ⟨h3.1, by omega⟩
            · right; omega

/-- Marks that say what runs say. -/
structure Marks (size : Nat) (rs : List (Nat × Nat)) (bs : List Bool) : Prop where
  len : bs.length = size
  us : ∀ x, x < size → (mk bs x = true ↔ Us rs x)
theorem marks_runs {size : Nat} {rs : List (Nat × Nat)} {bs : List Bool} (hg : Good size rs) (h : Marks size rs bs) : runsTo bs size = rs := by
  have ok := runs_ok bs size
  refine good_uniq ok.good hg fun x => ?_
  rw [ok.us]
  constructor
  · rintro ⟨h1, h2⟩; exact (h.us x h1).1 h2
  · intro hx; have := Us_lt hg hx; exact ⟨this, (h.us x this).2 hx⟩
theorem marks_new (size : Nat) : Marks size [] (List.replicate size false) :=
  ⟨by simp, fun x hx => by simp [mk, List.getD, hx, Us]⟩
theorem mk_false {size x : Nat} {rs : List (Nat × Nat)} {bs : List Bool} (h : Marks size rs bs) (hx : x < size) : mk bs x = false ↔ ¬ Us rs x := by
  rw [← h.us x hx]; simp
/-- Take, as marks say -/
theorem marks_take {size : Nat} {rs : List (Nat × Nat)} {bs : List Bool} (hg : Good size rs) (h : Marks size rs bs) (a n : Int) :
    (¬ May size a n ∧ takeS size rs a n = (1, rs)) ∨ (May size a n ∧ freeRB bs a n = false ∧ takeS size rs a n = (13, rs)) ∨
    (May size a n ∧ freeRB bs a n = true ∧ (takeS size rs a n).1 = 0 ∧ Marks size (takeS size rs a n).2 (setL bs a.toNat n.toNat true size)) := by
  rcases takeS_spec hg a n with h1 | ⟨hm, ⟨x, x1, x2, x3⟩, e⟩ | ⟨hm, hno, e0, hus, _⟩
  · exact .inl h1
  · obtain ⟨m1, m2, m3, m4⟩ := id hm
    refine .inr (.inl ⟨hm, ?_, e⟩)
    rw [freeRB, h.len, if_pos ⟨by omega, by omega, by omega, by omega⟩]
    exact allB_false x1 x2 (by rw [(h.us x (by omega)).2 x3]; rfl)
  · obtain ⟨m1, m2, m3, m4⟩ := id hm
    refine .inr (.inr ⟨hm, ?_, e0, ⟨setL_length _ _ _ _ _, fun x hx => ?_⟩⟩)
    · rw [freeRB, h.len, if_pos ⟨by omega, by omega, by omega, by omega⟩]
      exact allB_true fun x x1 x2 => by rw [(mk_false h (by omega)).2 (hno x x1 x2)]; rfl
    · rw [mk_setL _ _ _ _ _ _ hx, hus]
      split
      · simp_all
      · rename_i hn
        rw [h.us x hx]
        exact ⟨.inl, fun h => h.resolve_right hn⟩
theorem marks_free {size : Nat} {rs : List (Nat × Nat)} {bs : List Bool} (hg : Good size rs) (h : Marks size rs bs) (a n : Int) :
    (¬ May size a n ∧ freeS size rs a n = (1, rs)) ∨ (May size a n ∧ fullB bs a.toNat n.toNat = false ∧ freeS size rs a n = (7, rs)) ∨
    (May size a n ∧ fullB bs a.toNat n.toNat = true ∧ (freeS size rs a n).1 = 0 ∧ Marks size (freeS size rs a n).2 (setL bs a.toNat n.toNat false size)) := by
  rcases freeS_spec hg a n with h1 | ⟨hm, ⟨x, x1, x2, x3⟩, e⟩ | ⟨hm, hall, e0, hus, _⟩
  · exact .inl h1
  · obtain ⟨m1, m2, m3, m4⟩ := id hm
    refine .inr (.inl ⟨hm, ?_, e⟩)
    exact allB_false x1 x2 ((mk_false h (by omega)).2 x3)
  · obtain ⟨m1, m2, m3, m4⟩ := id hm
    refine .inr (.inr ⟨hm, ?_, e0, ⟨setL_length _ _ _ _ _, fun x hx => ?_⟩⟩)
    · exact allB_true fun x x1 x2 => (h.us x (by omega)).2 (hall x x1 x2)
    · rw [mk_setL _ _ _ _ _ _ hx, hus]
      split
      · simp_all
      · rename_i hn
        rw [h.us x hx]
        exact ⟨fun h => ⟨h, hn⟩, fun h => h.1⟩
theorem marks_freeB {size a k : Nat} {rs : List (Nat × Nat)} {bs : List Bool} (h : Marks size rs bs) (hk : 1 ≤ k) : freeRB bs a k = true ↔ a + k ≤ size ∧ ∀ x, a ≤ x → x < a + k → ¬ Us rs x := by
  unfold freeRB
  rw [h.len]
  split
  · rename_i hc
    simp only [Int.toNat_natCast]
    unfold freeB
    rw [allB_iff]
    constructor
    · intro hx
      exact ⟨by omega, fun x h1 h2 => (mk_false h (by omega)).1 (by have := hx x h1 h2; simpa using this)⟩
    · rintro ⟨h0, hx⟩ x h1 h2
      rw [(mk_false h (by omega)).2 (hx x h1 h2)]; rfl
  · rename_i hc
    constructor
    · intro h; cases h
    · rintro ⟨h0, _⟩; exact absurd ⟨by omega, by omega, by omega, by omega⟩ hc
/-- Find, as marks say: one of three ways. -/
theorem marks_find {size : Nat} {rs : List (Nat × Nat)} {bs : List Bool} (hg : Good size rs) (h : Marks size rs bs) (n f : Int) :
    (¬ (1 ≤ n ∧ 0 ≤ f ∧ f ≤ size) ∧ findS size rs n f = none) ∨
    ((1 ≤ n ∧ 0 ≤ f ∧ f ≤ size) ∧ ∃ q, findS size rs n f = some q ∧ q < size ∧ freeRB bs q n = true ∧ f.toNat ≤ q ∧ ∀ p : Nat, f.toNat ≤ p → p < q → freeRB bs p n = false) ∨
    ((1 ≤ n ∧ 0 ≤ f ∧ f ≤ size) ∧ (∀ p : Nat, f.toNat ≤ p → p < size → freeRB bs p n = false) ∧ ∃ q, findS size rs n f = some q ∧ q < f.toNat ∧ freeRB bs q n = true ∧ ∀ p : Nat, p < q → freeRB bs p n = false) ∨
    ((1 ≤ n ∧ 0 ≤ f ∧ f ≤ size) ∧ (∀ p : Nat, p < size → freeRB bs p n = false) ∧ findS size rs n f = none) := by
  by_cases hc : 1 ≤ n ∧ 0 ≤ f ∧ f ≤ size
  · obtain ⟨n, rfl⟩ := Int.eq_ofNat_of_zero_le (show 0 ≤ n by omega)
    obtain ⟨f, rfl⟩ := Int.eq_ofNat_of_zero_le (show 0 ≤ f by omega)
    have hn : 1 ≤ n := by omega
    have hf : f ≤ size := by omega
    have nof : ∀ p : Nat, (∃ x, p ≤ x ∧ x < p + n ∧ Us rs x) → freeRB bs p n = false := by
      rintro p ⟨x, x1, x2, x3⟩
      cases hb : freeRB bs p n with
      | false => rfl
      | true => exact absurd x3 (((marks_freeB h hn).1 hb).2 x x1 x2)
    have big : ∀ p : Nat, ¬ p + n ≤ size → freeRB bs p n = false := by
      intro p hp
      cases hb : freeRB bs p n with
      | false => rfl
      | true => exact absurd ((marks_freeB h hn).1 hb).1 hp
    have e : findS size rs n f = match fitS size rs n f with | some x => some x | none => fitS size rs n 0 := by rw [findS, if_pos hc]; rfl
    simp only [Int.toNat_natCast]
    cases h1 : fitS size rs n f with
    | some q =>
      obtain ⟨a1, a2, a3, a4⟩ := (fitS_spec hg hn).1 q h1
      refine .inr (.inl ⟨hc, q, by rw [e, h1], by omega, (marks_freeB h hn).2 ⟨a2, a3⟩, a1, fun p p1 p2 => nof p (a4 p p1 p2)⟩)
    | none =>
      have hno := (fitS_spec hg hn).2 h1
      have hno' : ∀ p : Nat, f ≤ p → freeRB bs p n = false := by
        intro p hp
        by_cases hps : p + n ≤ size
        · exact nof p (hno p hp hps)
        · exact big p hps
      cases h2 : fitS size rs n 0 with
      | some q =>
        obtain ⟨a1, a2, a3, a4⟩ := (fitS_spec hg hn).1 q h2
        have hq : q < f := by
          rcases Nat.lt_or_ge q f with h | h
          · exact h
          · obtain ⟨x, x1, x2, x3⟩ := hno q h a2
            exact absurd x3 (a3 x x1 x2)
        exact .inr (.inr (.inl ⟨hc, fun p p1 _ => hno' p p1, q, by rw [e, h1, h2], hq, (marks_freeB h hn).2 ⟨a2, a3⟩, fun p p2 => nof p (a4 p (by omega) p2)⟩))
      | none =>
        have hno2 := (fitS_spec hg hn).2 h2
        refine .inr (.inr (.inr ⟨hc, fun p _ => ?_, by rw [e, h1, h2]⟩))
        by_cases hps : p + n ≤ size
        · exact nof p (hno2 p (by omega) hps)
        · exact big p hps
  · exact .inl ⟨hc, by rw [findS, if_neg hc]⟩
end Go.Proofs.Ytmnhdpojonlfhaa
