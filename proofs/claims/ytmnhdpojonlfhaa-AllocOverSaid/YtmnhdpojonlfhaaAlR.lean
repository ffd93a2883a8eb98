/- Which stretches a book's blocks take: the plain law of Get, Mark and Drop. -/
import Derived.Test.YtmnhdpojonlfhaaAlT
import Derived.Test.YtmnhdpojonlfhaaSpPF
namespace Go.Proofs.Ytmnhdpojonlfhaa
open Go.RowKit

/-- a stretch: its group, its first sector, how many -/
abbrev St := Nat × Nat × Nat
def sHas (s : St) (g x : Nat) : Prop := s.1 = g ∧ s.2.1 ≤ x ∧ x < s.2.1 + s.2.2
structure sOk (gs : Gs) (secs : Int) (s : St) : Prop where
  lt : s.1 < gs.length
  pos : 1 ≤ s.2.2
  top : s.2.1 + s.2.2 ≤ (sect (gs.getD s.1 (0, 0)) secs).toNat
def Dis (s t : St) : Prop := ∀ g x, sHas s g x → ¬ sHas t g x
theorem Dis.symm {s t : St} (h : Dis s t) : Dis t s := fun g x h1 h2 => h g x h2 h1
/-- what is used is what these stretches are, which share no sector -/
structure Cov (gs : Gs) (secs : Int) (sn : SN) (L : List St) : Prop where
  slen : sn.length = gs.length
  size : ∀ g, g < gs.length → (sn.getD g sD).1 = (sect (gs.getD g (0, 0)) secs).toNat
  good : ∀ g, g < gs.length → Good (sn.getD g sD).1 (sn.getD g sD).2
  ok : ∀ s ∈ L, sOk gs secs s
  dis : L.Pairwise Dis
  us : ∀ g x, g < gs.length → (Us (sn.getD g sD).2 x ↔ ∃ s ∈ L, sHas s g x)
/-- a group's runs are others -/
def setG (sn : SN) (g : Nat) (rs : List (Nat × Nat)) : SN := sn.set g ((sn.getD g sD).1, rs)
theorem setG_same {sn : SN} {g : Nat} {rs : List (Nat × Nat)} (h : g < sn.length) : (setG sn g rs).getD g sD = ((sn.getD g sD).1, rs) := by
  unfold setG; rw [getD_set_same _ _ _ _ h]
theorem setG_other {sn : SN} {g k : Nat} {rs : List (Nat × Nat)} (h : k ≠ g) : (setG sn g rs).getD k sD = sn.getD k sD := by
  unfold setG; rw [getD_set_other _ _ _ _ _ (fun e => h e.symm)]
theorem setG_length (sn : SN) (g : Nat) (rs : List (Nat × Nat)) : (setG sn g rs).length = sn.length := by simp [setG]
/-- how much is free -/
def leftA (sn : SN) : Int := (sn.map fun s => (s.1 : Int) - (sumR s.2 : Int)).sum
theorem leftB_A (ms : List MT) : leftB ms = leftA (st2 ms) := by
  unfold leftB st2 leftA
  rw [List.map_map]
  rfl
theorem leftA_set : ∀ {sn : SN} {g : Nat} {rs : List (Nat × Nat)}, g < sn.length → leftA (setG sn g rs) + sumR rs = leftA sn + sumR (sn.getD g sD).2
  | [], g, rs, h => by simp at h
  | s :: sn, 0, rs, _ => by simp [setG, leftA]; omega
  | s :: sn, g + 1, rs, h => by
    have ih := leftA_set (sn := sn) (g := g) (rs := rs) (by simpa using h)
    have e1 : setG (s :: sn) (g + 1) rs = s :: setG sn g rs := by simp [setG]
    have e2 : leftA (s :: setG sn g rs) = ((s.1 : Int) - (sumR s.2 : Int)) + leftA (setG sn g rs) := by simp [leftA]
    have e3 : leftA (s :: sn) = ((s.1 : Int) - (sumR s.2 : Int)) + leftA sn := by simp [leftA]
    have e4 : (s :: sn).getD (g + 1) sD = sn.getD g sD := by simp
    rw [e1, e2, e3, e4]
    omega

section
variable {gs : Gs} {secs : Int} {sn : SN} {L : List St}
theorem Cov.may (h : Cov gs secs sn L) {s : St} (hs : sOk gs secs s) : May (sn.getD s.1 sD).1 (s.2.1 : Nat) (s.2.2 : Nat) := by
  have h1 := h.size s.1 hs.lt
  have h2 := hs.top
  have h3 := hs.pos
  unfold May
  rw [h1]
  omega
/-- a stretch that is free is taken -/
theorem Cov.take (h : Cov gs secs sn L) {s : St} (hs : sOk gs secs s) (hd : ∀ t ∈ L, Dis s t) :
    (takeS (sn.getD s.1 sD).1 (sn.getD s.1 sD).2 (s.2.1 : Nat) (s.2.2 : Nat)).1 = 0 ∧ Cov gs secs (setG sn s.1 (takeS (sn.getD s.1 sD).1 (sn.getD s.1 sD).2 (s.2.1 : Nat) (s.2.2 : Nat)).2) (L ++ [s]) ∧
      leftA (setG sn s.1 (takeS (sn.getD s.1 sD).1 (sn.getD s.1 sD).2 (s.2.1 : Nat) (s.2.2 : Nat)).2) + s.2.2 = leftA sn := by
  have hg := h.good s.1 hs.lt
  have hl : s.1 < sn.length := by rw [h.slen]; exact hs.lt
  have hm := h.may hs
  have hgt := takeS_good hg (s.2.1 : Nat) (s.2.2 : Nat)
  have hsum := leftA_set (sn := sn) (g := s.1) (rs := (takeS (sn.getD s.1 sD).1 (sn.getD s.1 sD).2 (s.2.1 : Nat) (s.2.2 : Nat)).2) hl
  rcases takeS_spec hg (s.2.1 : Nat) (s.2.2 : Nat) with ⟨hn, _⟩ | ⟨_, ⟨x, x1, x2, x3⟩, _⟩ | ⟨_, hno, e0, hus, hs2⟩
  · exact absurd hm hn
  · simp only [Int.toNat_natCast] at x1 x2
    obtain ⟨t, ht, hx⟩ := (h.us s.1 x hs.lt).1 x3
    exact absurd hx (hd t ht s.1 x ⟨rfl, x1, x2⟩)
  · simp only [Int.toNat_natCast] at hus hs2
    refine ⟨e0, ⟨by rw [setG_length]; exact h.slen, fun g hg' => ?_, fun g hg' => ?_, fun t ht => ?_, ?_, fun g x hg' => ?_⟩, by omega⟩
    · by_cases e : g = s.1
      · subst e; rw [setG_same hl]; exact h.size _ hg'
      · rw [setG_other e]; exact h.size _ hg'
    · by_cases e : g = s.1
      · subst e; rw [setG_same hl]; exact hgt
      · rw [setG_other e]; exact h.good _ hg'
    · rcases List.mem_append.1 ht with ht | ht
      · exact h.ok t ht
      · rw [List.mem_singleton.1 ht]; exact hs
    · exact List.pairwise_append.2 ⟨h.dis, List.pairwise_singleton _ _, fun a ha b hb => by rw [List.mem_singleton.1 hb]; exact (hd a ha).symm⟩
    · have hex : (∃ t ∈ L ++ [s], sHas t g x) ↔ (∃ t ∈ L, sHas t g x) ∨ sHas s g x := by
        constructor
        · rintro ⟨t, ht, hx⟩
          rcases List.mem_append.1 ht with ht | ht
          · exact .inl ⟨t, ht, hx⟩
          · rw [List.mem_singleton.1 ht] at hx; exact .inr hx
        · rintro (⟨t, ht, hx⟩ | hx)
          · exact ⟨t, List.mem_append_left _ ht, hx⟩
          · exact ⟨s, by simp, hx⟩
      rw [hex]
      by_cases e : g = s.1
      · subst e
        rw [setG_same hl]
        show Us (takeS _ _ _ _).2 x ↔ _
        rw [hus, h.us _ x hg']
        unfold sHas
        simp
      · rw [setG_other e, h.us _ x hg']
        constructor
        · exact .inl
        · rintro (h' | h')
          · exact h'
          · exact absurd h'.1.symm e
/-- a stretch that is taken isn't taken again -/
theorem Cov.used (h : Cov gs secs sn L) {s : St} (hs : s ∈ L) : takeS (sn.getD s.1 sD).1 (sn.getD s.1 sD).2 (s.2.1 : Nat) (s.2.2 : Nat) = (13, (sn.getD s.1 sD).2) := by
  have ho := h.ok s hs
  have hg := h.good s.1 ho.lt
  have hm := h.may ho
  have hp := ho.pos
  rcases takeS_spec hg (s.2.1 : Nat) (s.2.2 : Nat) with ⟨hn, _⟩ | ⟨_, _, e⟩ | ⟨_, hno, _⟩
  · exact absurd hm hn
  · exact e
  · simp only [Int.toNat_natCast] at hno
    exact absurd ((h.us s.1 s.2.1 ho.lt).2 ⟨s, hs, rfl, Nat.le_refl _, by omega⟩) (hno _ (Nat.le_refl _) (by omega))
/-- a stretch that is taken is freed -/
theorem Cov.free {A B : List St} {s : St} (h : Cov gs secs sn (A ++ s :: B)) :
    (freeS (sn.getD s.1 sD).1 (sn.getD s.1 sD).2 (s.2.1 : Nat) (s.2.2 : Nat)).1 = 0 ∧ Cov gs secs (setG sn s.1 (freeS (sn.getD s.1 sD).1 (sn.getD s.1 sD).2 (s.2.1 : Nat) (s.2.2 : Nat)).2) (A ++ B) ∧
      leftA (setG sn s.1 (freeS (sn.getD s.1 sD).1 (sn.getD s.1 sD).2 (s.2.1 : Nat) (s.2.2 : Nat)).2) = leftA sn + s.2.2 := by
  have hs := h.ok s (by simp)
  have hg := h.good s.1 hs.lt
  have hl : s.1 < sn.length := by rw [h.slen]; exact hs.lt
  have hm := h.may hs
  have hgt := freeS_good hg (s.2.1 : Nat) (s.2.2 : Nat)
  have hsum := leftA_set (sn := sn) (g := s.1) (rs := (freeS (sn.getD s.1 sD).1 (sn.getD s.1 sD).2 (s.2.1 : Nat) (s.2.2 : Nat)).2) hl
  have hd : ∀ t ∈ A ++ B, Dis s t := by
    have hp := List.pairwise_append.1 h.dis
    intro t ht
    rcases List.mem_append.1 ht with ht | ht
    · exact (hp.2.2 t ht s (by simp)).symm
    · exact (List.pairwise_cons.1 hp.2.1).1 t ht
  rcases freeS_spec hg (s.2.1 : Nat) (s.2.2 : Nat) with ⟨hn, _⟩ | ⟨_, ⟨x, x1, x2, x3⟩, _⟩ | ⟨_, hno, e0, hus, hs2⟩
  · exact absurd hm hn
  · simp only [Int.toNat_natCast] at x1 x2
    exact absurd ((h.us s.1 x hs.lt).2 ⟨s, by simp, rfl, x1, x2⟩) x3
  · simp only [Int.toNat_natCast] at hus hs2
    refine ⟨e0, ⟨by rw [setG_length]; exact h.slen, fun g hg' => ?_, fun g hg' => ?_, fun t ht => ?_, ?_, fun g x hg' => ?_⟩, by omega⟩
    · by_cases e : g = s.1
      · subst e; rw [setG_same hl]; exact h.size _ hg'
      · rw [setG_other e]; exact h.size _ hg'
    · by_cases e : g = s.1
      · subst e; rw [setG_same hl]; exact hgt
      · rw [setG_other e]; exact h.good _ hg'
    · refine h.ok t ?_
      rcases List.mem_append.1 ht with ht | ht
      · simp [ht]
      · simp [ht]
    · exact h.dis.sublist (List.Sublist.append_left (List.sublist_cons_self _ _) _)
    · have hex : (∃ t ∈ A ++ s :: B, sHas t g x) ↔ (∃ t ∈ A ++ B, sHas t g x) ∨ sHas s g x := by
        constructor
        · rintro ⟨t, ht, hx⟩
          simp only [List.mem_append, List.mem_cons] at ht
          rcases ht with ht | rfl | ht
          · exact .inl ⟨t, by simp [ht], hx⟩
          · exact .inr hx
          · exact .inl ⟨t, by simp [ht], hx⟩
        · rintro (⟨t, ht, hx⟩ | hx)
          · refine ⟨t, ?_, hx⟩
            simp only [List.mem_append, List.mem_cons] at ht ⊢
            rcases ht with ht | ht
            · exact .inl ht
            · exact .inr (.inr ht)
          · exact ⟨s, by simp, hx⟩
      by_cases e : g = s.1
      · subst e
        rw [setG_same hl]
        show Us (freeS _ _ _ _).2 x ↔ _
        rw [hus, h.us _ x hg', hex]
        constructor
        · rintro ⟨h1 | h1, h2⟩
          · exact h1
          · exact absurd h1.2 h2
        · rintro ⟨t, ht, hx⟩
          exact ⟨.inl ⟨t, ht, hx⟩, fun h2 => hd t ht _ x ⟨rfl, h2⟩ hx⟩
      · rw [setG_other e, h.us _ x hg', hex]
        constructor
        · rintro (h' | h')
          · exact h'
          · exact absurd h'.1.symm e
        · exact .inl
/-- a stretch that is free isn't freed -/
theorem Cov.none (h : Cov gs secs sn L) {s : St} (hs : sOk gs secs s) (hd : ∀ t ∈ L, Dis s t) : freeS (sn.getD s.1 sD).1 (sn.getD s.1 sD).2 (s.2.1 : Nat) (s.2.2 : Nat) = (7, (sn.getD s.1 sD).2) := by
  have hg := h.good s.1 hs.lt
  have hm := h.may hs
  have hp := hs.pos
  rcases freeS_spec hg (s.2.1 : Nat) (s.2.2 : Nat) with ⟨hn, _⟩ | ⟨_, _, e⟩ | ⟨_, hno, _⟩
  · exact absurd hm hn
  · exact e
  · simp only [Int.toNat_natCast] at hno
    obtain ⟨t, ht, hx⟩ := (h.us s.1 s.2.1 hs.lt).1 (hno s.2.1 (Nat.le_refl _) (by omega))
    exact absurd hx (hd t ht s.1 s.2.1 ⟨rfl, Nat.le_refl _, by omega⟩)
theorem sumR_zero_nil {size : Nat} {rs : List (Nat × Nat)} (h : Good size rs) (hn : ∀ x, ¬ Us rs x) : rs = [] :=
  good_uniq h (⟨by simp, List.Pairwise.nil⟩ : Good 0 []) (fun x => ⟨fun h' => absurd h' (hn x), fun h' => absurd h' (Us_nil x)⟩)
theorem Cov.fresh (h : Cov gs secs sn []) : ∀ g, g < gs.length → (sn.getD g sD) = ((sect (gs.getD g (0, 0)) secs).toNat, []) := by
  intro g hg
  have h1 := h.size g hg
  have h2 := sumR_zero_nil (h.good g hg) (fun x hx => by obtain ⟨s, hs, _⟩ := (h.us g x hg).1 hx; simp at hs)
  rw [← h1, ← h2]
theorem Cov.empty (hl : sn.length = gs.length) (hs : ∀ j, j < gs.length → sn.getD j sD = ((sect (gs.getD j (0, 0)) secs).toNat, [])) : Cov gs secs sn [] := by
  refine ⟨hl, fun g hg => by rw [hs g hg], fun g hg => by rw [hs g hg]; exact ⟨by simp, List.Pairwise.nil⟩, by simp, List.Pairwise.nil, fun g x hg => ?_⟩
  rw [hs g hg]
  constructor
  · exact fun h => absurd h (Us_nil x)
  · rintro ⟨s, hs, _⟩; simp at hs
theorem Cov.uniq {sn' : SN} (h : Cov gs secs sn []) (h' : Cov gs secs sn' []) : sn = sn' := by
  apply List.ext_getElem
  · rw [h.slen, h'.slen]
  · intro i h1 h2
    have a := h.fresh i (by rw [← h.slen]; exact h1)
    have b := h'.fresh i (by rw [← h.slen]; exact h1)
    rw [List.getD_eq_getElem?_getD, List.getElem?_eq_getElem h1] at a
    rw [List.getD_eq_getElem?_getD, List.getElem?_eq_getElem h2] at b
    simp only [Option.getD_some] at a b
    rw [a, b]
end

/-- a place's stretch -/
def stOf (gs : Gs) (secs : Int) (size : Int) (x : Nat × Nat) : St := (x.1, x.2, (takesI gs secs x.1 size).toNat)
/-- a block's stretches -/
def strs (gs : Gs) (secs : Int) (size : Int) (two : Bool) (p q : Nat × Nat) : List St := if two = true then [stOf gs secs size p, stOf gs secs size q] else [stOf gs secs size p]
section
variable {gs : Gs} {secs : Int} {sn : SN} {es : List Nat} {L : List St}
theorem Inv.find (h : Inv gs secs sn es) {size : Int} (h1 : 1 ≤ size) (h2 : size ≤ 4) {x : Nat × Nat} (hx : x.1 < gs.length) (hf : findA gs secs sn es size x.1 = some x.2) (hc : Cov gs secs sn L) :
    sOk gs secs (stOf gs secs size x) ∧ (∀ t ∈ L, Dis (stOf gs secs size x) t) ∧ putS gs secs sn size x = setG sn x.1 (takeS (sn.getD x.1 sD).1 (sn.getD x.1 sD).2 (x.2 : Nat) ((takesI gs secs x.1 size).toNat : Nat)).2 := by
  obtain ⟨t, ht, t1, t6, ts⟩ := takes_nat h.right hx h1 h2
  unfold findA at hf
  rw [ht] at hf
  obtain ⟨_, hq, hfree⟩ := findS_some (h.good _ hx) t1 hf
  unfold stOf putS setG
  rw [ht, Int.toNat_natCast]
  refine ⟨⟨hx, t1, by dsimp only; rw [← h.size _ hx]; exact hq⟩, fun s hs g y hy hy' => ?_, rfl⟩
  obtain ⟨e, y1, y2⟩ := hy
  dsimp only at e y1 y2
  subst e
  exact hfree y y1 y2 ((hc.us x.1 y hx).2 ⟨s, hs, hy'⟩)
/-- what Get gives and leaves -/
theorem Inv.rightGet (h : Inv gs secs sn es) (hc : Cov gs secs sn L) (size : Int) (two : Bool) :
    ((getA gs secs sn es size two).err ≠ 0 ∧ (getA gs secs sn es size two).sn = sn ∧ (getA gs secs sn es size two).p = (0, 0) ∧ (getA gs secs sn es size two).q = (0, 0)) ∨
    ((getA gs secs sn es size two).err = 0 ∧ 1 ≤ size ∧ size ≤ 4 ∧ Cov gs secs (getA gs secs sn es size two).sn (L ++ strs gs secs size two (getA gs secs sn es size two).p (getA gs secs sn es size two).q) ∧ leftA (getA gs secs sn es size two).sn < leftA sn ∧
      (two = false → (getA gs secs sn es size two).q = (0, 0))) := by
  by_cases hs : 1 ≤ size ∧ size ≤ 4
  · rcases oneA_spec gs secs sn es size (-1) with ⟨h0, _⟩ | ⟨x, h0, hx, hf, _⟩
    · have hg : getA gs secs sn es size two = ⟨(0, 0), (0, 0), 8, sn, es⟩ := by unfold getA; rw [if_pos hs, h0]
      rw [hg]
      exact .inl ⟨by simp, rfl, rfl, rfl⟩
    · have hi1 := h.put hs.1 hs.2 hx hf
      obtain ⟨o1, d1, e1⟩ := h.find hs.1 hs.2 hx hf hc
      obtain ⟨_, c1, l1⟩ := hc.take o1 d1
      have hc1 : Cov gs secs (putS gs secs sn size x) (L ++ [stOf gs secs size x]) := by rw [e1]; exact c1
      have hl1 : leftA (putS gs secs sn size x) < leftA sn := by
        rw [e1]
        have := o1.pos
        have l1' : leftA (setG sn x.1 (takeS (sn.getD x.1 sD).1 (sn.getD x.1 sD).2 (x.2 : Nat) ((takesI gs secs x.1 size).toNat : Nat)).2) + ((stOf gs secs size x).2.2 : Nat) = leftA sn := l1
        omega
      cases two
      · have hg : getA gs secs sn es size false = ⟨x, (0, 0), 0, putS gs secs sn size x, putE gs secs es size x⟩ := by unfold getA; rw [if_pos hs, h0]; rfl
        rw [hg]
        exact .inr ⟨rfl, hs.1, hs.2, hc1, hl1, fun _ => rfl⟩
      · rcases oneA_spec gs secs (putS gs secs sn size x) (putE gs secs es size x) size (x.1 : Nat) with ⟨h2, _⟩ | ⟨y, h2, hy, hf2, _⟩
        · have hg : getA gs secs sn es size true = ⟨(0, 0), (0, 0), 8, sn, es⟩ := by unfold getA; rw [if_pos hs, h0]; dsimp only; rw [if_pos rfl, h2]
          rw [hg]
          exact .inl ⟨by simp, rfl, rfl, rfl⟩
        · have hg : getA gs secs sn es size true = ⟨x, y, 0, putS gs secs (putS gs secs sn size x) size y, putE gs secs (putE gs secs es size x) size y⟩ := by unfold getA; rw [if_pos hs, h0]; dsimp only; rw [if_pos rfl, h2]
          rw [hg]
          obtain ⟨o2, d2, e2⟩ := hi1.find hs.1 hs.2 hy hf2 hc1
          obtain ⟨_, c2, l2⟩ := hc1.take o2 d2
          refine .inr ⟨rfl, hs.1, hs.2, ?_, ?_, fun h => by simp at h⟩
          · dsimp only
            rw [e2]
            have : L ++ strs gs secs size true x y = L ++ [stOf gs secs size x] ++ [stOf gs secs size y] := by simp [strs]
            rw [this]
            exact c2
          · dsimp only
            rw [e2]
            have := o2.pos
            have l2' : leftA (setG (putS gs secs sn size x) y.1 (takeS ((putS gs secs sn size x).getD y.1 sD).1 ((putS gs secs sn size x).getD y.1 sD).2 (y.2 : Nat) ((takesI gs secs y.1 size).toNat : Nat)).2) + ((stOf gs secs size y).2.2 : Nat) = leftA (putS gs secs sn size x) := l2
            omega
  · have hg : getA gs secs sn es size two = ⟨(0, 0), (0, 0), 1, sn, es⟩ := by unfold getA; rw [if_neg hs]
    rw [hg]
    exact .inl ⟨by simp, rfl, rfl, rfl⟩
end
end Go.Proofs.Ytmnhdpojonlfhaa
