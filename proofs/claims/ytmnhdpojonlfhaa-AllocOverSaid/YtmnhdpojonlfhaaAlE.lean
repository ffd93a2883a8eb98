/- Right pointers, Mark and Drop: the plain law. -/
import Derived.Test.YtmnhdpojonlfhaaAlR
import Derived.Test.YtmnhdpojonlfhaaAlA
namespace Go.Proofs.Ytmnhdpojonlfhaa
open Go.RowKit

/-- may a block be there? -/
def mayC (gs : Gs) (secs g a size : Int) : Bool := decide (0 < takesI gs secs g size ∧ 0 ≤ a ∧ a ≤ sectI gs secs g - takesI gs secs g size)
def apartC (gs : Gs) (secs ag aa bg ba size : Int) : Bool := decide (ag ≠ bg ∨ aa + takesI gs secs ag size ≤ ba ∨ ba + takesI gs secs bg size ≤ aa)
/-- is a pointer right? -/
def ptrRight (gs : Gs) (secs : Int) (p : PtrT) : Bool :=
  decide (0 ≤ p.level ∧ p.level ≤ 3 ∧ 1 ≤ p.birth ∧ p.birth ≤ 4294967295) && mayC gs secs p.ag p.aa p.size && (if p.two = true then mayC gs secs p.bg p.ba p.size && apartC gs secs p.ag p.aa p.bg p.ba p.size else decide (p.bg = 0 ∧ p.ba = 0))
theorem takesI_pos {gs : Gs} {secs g size : Int} (h : 0 < takesI gs secs g size) : rightB gs secs = true ∧ 0 ≤ g ∧ g < gs.length ∧ 1 ≤ size ∧ size ≤ 4 := by
  unfold takesI at h
  split at h
  · rename_i hc
    obtain ⟨h1, h2, h3⟩ := hasB_spec hc.1
    exact ⟨h1, h2, h3, hc.2.1, hc.2.2⟩
  · omega
theorem sectI_at {gs : Gs} {secs : Int} (h : rightB gs secs = true) {i : Nat} (hi : i < gs.length) : sectI gs secs i = sect (gs.getD i (0, 0)) secs := by
  unfold sectI
  rw [if_pos (hasB_mk h (by omega) (by omega)), Int.toNat_natCast]
/-- the places of a pointer -/
def plN (p : PtrT) : List (Nat × Nat) := (p.ag.toNat, p.aa.toNat) :: if p.two = true then [(p.bg.toNat, p.ba.toNat)] else []
/-- the stretches of a pointer -/
def pstrs (gs : Gs) (secs : Int) (p : PtrT) : List St := (plN p).map (stOf gs secs p.size)
theorem mayC_spec {gs : Gs} {secs g a size : Int} (h : mayC gs secs g a size = true) : rightB gs secs = true ∧ 0 ≤ g ∧ g < gs.length ∧ 1 ≤ size ∧ size ≤ 4 ∧ 0 ≤ a ∧ a ≤ 32768 ∧ 1 ≤ takesI gs secs g size ∧ takesI gs secs g size ≤ 6 ∧ sOk gs secs (stOf gs secs size (g.toNat, a.toNat)) := by
  unfold mayC at h
  simp only [decide_eq_true_eq] at h
  obtain ⟨h1, h2, h3⟩ := h
  obtain ⟨a1, a2, a3, a4, a5⟩ := takesI_pos h1
  obtain ⟨i, rfl⟩ : ∃ i : Nat, g = i := ⟨g.toNat, by omega⟩
  have hi : i < gs.length := by omega
  obtain ⟨t, ht, t1, t6, ts⟩ := takes_nat a1 hi a4 a5
  rw [sectI_at a1 hi, ht] at h3
  have hr := rightB_spec a1
  have hb := sect_bd (getD_right a1 hi) hr.2.2.1 hr.2.2.2.1
  refine ⟨a1, a2, a3, a4, a5, h2, by omega, by omega, by omega, ⟨by simp only [stOf, Int.toNat_natCast]; exact hi, ?_, ?_⟩⟩
  · simp only [stOf, Int.toNat_natCast, ht]; exact t1
  · simp only [stOf, Int.toNat_natCast, ht]; omega
theorem mayC_mk {gs : Gs} {secs size : Int} {x : Nat × Nat} (hr : rightB gs secs = true) (h1 : 1 ≤ size) (h2 : size ≤ 4) (h : sOk gs secs (stOf gs secs size x)) : mayC gs secs x.1 x.2 size = true := by
  obtain ⟨t, ht, t1, t6, ts⟩ := takes_nat hr h.lt h1 h2
  have hr' := rightB_spec hr
  have hb := sect_bd (getD_right hr h.lt) hr'.2.2.1 hr'.2.2.2.1
  have htop := h.top
  simp only [stOf] at htop ht ts hb
  rw [ht, Int.toNat_natCast] at htop
  unfold mayC
  have hsI := sectI_at hr h.lt
  simp only [stOf] at hsI
  rw [hsI, ht]
  simp only [decide_eq_true_eq]
  omega
/-- a block that is got -/
def mkP (p q : Nat × Nat) (two : Bool) (size : Int) : PtrT := ⟨p.1, p.2, q.1, q.2, two, size, 0, 1, 0, 0, 0, 0⟩
theorem plN_mk (p q : Nat × Nat) (two : Bool) (size : Int) : plN (mkP p q two size) = p :: if two = true then [q] else [] := by cases two <;> simp [plN, mkP]
theorem pstrs_mk (gs : Gs) (secs : Int) (p q : Nat × Nat) (two : Bool) (size : Int) : pstrs gs secs (mkP p q two size) = strs gs secs size two p q := by
  unfold pstrs
  rw [plN_mk]
  cases two <;> simp [strs, mkP]
theorem Cov.right {gs : Gs} {secs : Int} {sn : SN} {L : List St} {p q : Nat × Nat} {two : Bool} {size : Int} (hr : rightB gs secs = true) (h1 : 1 ≤ size) (h2 : size ≤ 4) (h : Cov gs secs sn (L ++ strs gs secs size two p q)) (hq : two = false → q = (0, 0)) :
    ptrRight gs secs (mkP p q two size) = true := by
  have hp : sOk gs secs (stOf gs secs size p) := h.ok _ (by cases two <;> simp [strs])
  have m1 := mayC_mk hr h1 h2 hp
  cases two
  · rw [hq rfl]
    simp [ptrRight, mkP, m1]
  · have hq' : sOk gs secs (stOf gs secs size q) := h.ok _ (by simp [strs])
    have m2 := mayC_mk hr h1 h2 hq'
    have hd : Dis (stOf gs secs size p) (stOf gs secs size q) := by
      have := (List.pairwise_append.1 h.dis).2.1
      simp only [strs, if_pos, List.pairwise_cons] at this
      exact this.1 _ (by simp)
    have ha : apartC gs secs p.1 p.2 q.1 q.2 size = true := by
      unfold apartC
      simp only [decide_eq_true_eq]
      by_cases e : p.1 = q.1
      · right
        have s1 := hp.pos
        have s2 := hq'.pos
        simp only [stOf] at s1 s2
        apply Classical.byContradiction
        intro hno
        have hd1 := hd p.1 (max p.2 q.2)
        simp only [sHas, stOf] at hd1
        exact hd1 ⟨trivial, by omega, by omega⟩ ⟨e.symm, by omega, by omega⟩
      · left
        omega
    simp [ptrRight, mkP, m1, m2, ha]

/-- an op at each of some places, till one fails -/
def eachGo (op : Nat → List (Nat × Nat) → Int → Int → Int × List (Nat × Nat)) (gs : Gs) (secs size : Int) : List (Nat × Nat) → SN → Int × SN
  | [], sn => (0, sn)
  | x :: r, sn => if (op (sn.getD x.1 sD).1 (sn.getD x.1 sD).2 (x.2 : Nat) (takesI gs secs x.1 size)).1 = 0 then eachGo op gs secs size r (setG sn x.1 (op (sn.getD x.1 sD).1 (sn.getD x.1 sD).2 (x.2 : Nat) (takesI gs secs x.1 size)).2) else ((op (sn.getD x.1 sD).1 (sn.getD x.1 sD).2 (x.2 : Nat) (takesI gs secs x.1 size)).1, sn)
/-- all or none -/
def eachA (op : Nat → List (Nat × Nat) → Int → Int → Int × List (Nat × Nat)) (gs : Gs) (secs : Int) (sn : SN) (p : PtrT) : Int × SN :=
  if ptrRight gs secs p = true then (if (eachGo op gs secs p.size (plN p) sn).1 = 0 then eachGo op gs secs p.size (plN p) sn else ((eachGo op gs secs p.size (plN p) sn).1, sn)) else (1, sn)
theorem ptrRight_may {gs : Gs} {secs : Int} {p : PtrT} (h : ptrRight gs secs p = true) : mayC gs secs p.ag p.aa p.size = true ∧ (p.two = true → mayC gs secs p.bg p.ba p.size = true ∧ apartC gs secs p.ag p.aa p.bg p.ba p.size = true) ∧ (p.two = false → p.bg = 0 ∧ p.ba = 0) ∧ (0 ≤ p.level ∧ p.level ≤ 3 ∧ 1 ≤ p.birth ∧ p.birth ≤ 4294967295) := by
  unfold ptrRight at h
  simp only [Bool.and_eq_true, decide_eq_true_eq] at h
  obtain ⟨⟨h1, h2⟩, h3⟩ := h
  refine ⟨h2, fun e => ?_, fun e => ?_, h1⟩
  · rw [if_pos e] at h3; simpa using h3
  · rw [e] at h3; simpa using h3
/-- what a right pointer's stretches are -/
theorem ptrRight_strs {gs : Gs} {secs : Int} {p : PtrT} (h : ptrRight gs secs p = true) : (∀ s ∈ pstrs gs secs p, sOk gs secs s) ∧ (pstrs gs secs p).Pairwise Dis := by
  obtain ⟨h1, h2, _, _⟩ := ptrRight_may h
  have m1 := mayC_spec h1
  cases ht : p.two
  · have e : pstrs gs secs p = [stOf gs secs p.size (p.ag.toNat, p.aa.toNat)] := by simp [pstrs, plN, ht]
    rw [e]
    exact ⟨fun s hs => by rw [List.mem_singleton.1 hs]; exact m1.2.2.2.2.2.2.2.2.2, List.pairwise_singleton _ _⟩
  · obtain ⟨h3, h4⟩ := h2 ht
    have m2 := mayC_spec h3
    have e : pstrs gs secs p = [stOf gs secs p.size (p.ag.toNat, p.aa.toNat), stOf gs secs p.size (p.bg.toNat, p.ba.toNat)] := by simp [pstrs, plN, ht]
    rw [e]
    refine ⟨fun s hs => ?_, List.pairwise_cons.2 ⟨fun s hs => ?_, List.pairwise_singleton _ _⟩⟩
    · simp only [List.mem_cons, List.not_mem_nil, or_false] at hs
      rcases hs with rfl | rfl
      · exact m1.2.2.2.2.2.2.2.2.2
      · exact m2.2.2.2.2.2.2.2.2.2
    · rw [List.mem_singleton.1 hs]
      intro g x hx hy
      unfold apartC at h4
      simp only [decide_eq_true_eq] at h4
      simp only [sHas, stOf] at hx hy
      have ea : ((p.ag.toNat : Nat) : Int) = p.ag := Int.toNat_of_nonneg m1.2.1
      have eb : ((p.bg.toNat : Nat) : Int) = p.bg := Int.toNat_of_nonneg m2.2.1
      rw [ea] at hx
      rw [eb] at hy
      have a1 := m1.2.2.2.2.2
      have b1 := m2.2.2.2.2.2
      have e1 := m1.2.1
      have e2 := m2.2.1
      rcases h4 with h4 | h4 | h4
      · omega
      · omega
      · omega
section
variable {gs : Gs} {secs : Int} {sn : SN} {L : List St}
theorem eachGo_take (size : Int) : ∀ (pl : List (Nat × Nat)) (sn : SN) (L : List St), Cov gs secs sn L → (∀ x ∈ pl, sOk gs secs (stOf gs secs size x) ∧ 0 ≤ takesI gs secs x.1 size) → (pl.map (stOf gs secs size)).Pairwise Dis → (∀ x ∈ pl, ∀ t ∈ L, Dis (stOf gs secs size x) t) →
    (eachGo takeS gs secs size pl sn).1 = 0 ∧ Cov gs secs (eachGo takeS gs secs size pl sn).2 (L ++ pl.map (stOf gs secs size))
  | [], sn, L, hc, _, _, _ => ⟨rfl, by simpa [eachGo] using hc⟩
  | x :: r, sn, L, hc, ho, hp, hd => by
    obtain ⟨o1, o2⟩ := ho x (by simp)
    obtain ⟨h0, h1, _⟩ := hc.take o1 (hd x (by simp))
    have et : ((takesI gs secs x.1 size).toNat : Int) = takesI gs secs x.1 size := Int.toNat_of_nonneg o2
    simp only [stOf, et] at h0 h1
    unfold eachGo
    rw [if_pos h0]
    simp only [List.map_cons, List.pairwise_cons] at hp
    have := eachGo_take size r _ _ h1 (fun y hy => ho y (by simp [hy])) hp.2 (fun y hy t ht => by
      rcases List.mem_append.1 ht with ht | ht
      · exact hd y (by simp [hy]) t ht
      · rw [List.mem_singleton.1 ht]
        exact (hp.1 _ (List.mem_map_of_mem hy)).symm)
    refine ⟨this.1, ?_⟩
    have h2 := this.2
    simp only [List.append_assoc, List.singleton_append] at h2
    exact h2
theorem eachGo_free (size : Int) : ∀ (pl : List (Nat × Nat)) (sn : SN) (L : List St), Cov gs secs sn (pl.map (stOf gs secs size) ++ L) → (∀ x ∈ pl, 0 ≤ takesI gs secs x.1 size) →
    (eachGo freeS gs secs size pl sn).1 = 0 ∧ Cov gs secs (eachGo freeS gs secs size pl sn).2 L ∧ leftA sn + pl.length ≤ leftA (eachGo freeS gs secs size pl sn).2
  | [], sn, L, hc, _ => ⟨rfl, by simpa [eachGo] using hc, by simp [eachGo]⟩
  | x :: r, sn, L, hc, ho => by
    have o2 := ho x (by simp)
    simp only [List.map_cons, List.cons_append] at hc
    have hpos := (hc.ok _ (List.mem_cons_self)).pos
    obtain ⟨h0, h1, h2⟩ := Cov.free (A := []) hc
    have et : ((takesI gs secs x.1 size).toNat : Int) = takesI gs secs x.1 size := Int.toNat_of_nonneg o2
    simp only [stOf, et, List.nil_append] at h0 h1 h2 hpos
    unfold eachGo
    rw [if_pos h0]
    obtain ⟨a1, a2, a3⟩ := eachGo_free size r _ L h1 (fun y hy => ho y (by simp [hy]))
    refine ⟨a1, a2, ?_⟩
    simp only [List.length_cons]
    omega
theorem plN_takes {p : PtrT} (h : ptrRight gs secs p = true) : ∀ x ∈ plN p, 0 ≤ takesI gs secs x.1 p.size := by
  obtain ⟨h1, h2, _, _⟩ := ptrRight_may h
  have m1 := mayC_spec h1
  intro x hx
  unfold plN at hx
  rcases List.mem_cons.1 hx with rfl | hx
  · dsimp only
    rw [Int.toNat_of_nonneg m1.2.1]
    omega
  · cases ht : p.two
    · rw [ht] at hx; simp at hx
    · rw [ht] at hx
      simp only [if_true, List.mem_singleton] at hx
      have m2 := mayC_spec (h2 ht).1
      rw [hx]
      dsimp only
      rw [Int.toNat_of_nonneg m2.2.1]
      omega
theorem pstrs_ne (p : PtrT) : ∃ s r, pstrs gs secs p = s :: r ∧ s = stOf gs secs p.size (p.ag.toNat, p.aa.toNat) := ⟨_, _, rfl, rfl⟩
/-- what is marked isn't marked again -/
theorem mark_used {p : PtrT} (h : ptrRight gs secs p = true) (hc : Cov gs secs sn L) (hin : stOf gs secs p.size (p.ag.toNat, p.aa.toNat) ∈ L) : eachA takeS gs secs sn p = (13, sn) := by
  have hu := hc.used hin
  have et : ((takesI gs secs p.ag.toNat p.size).toNat : Int) = takesI gs secs p.ag.toNat p.size := Int.toNat_of_nonneg (plN_takes h (p.ag.toNat, p.aa.toNat) (by simp [plN]))
  simp only [stOf, et] at hu
  have e : eachGo takeS gs secs p.size (plN p) sn = (13, sn) := by
    unfold plN eachGo
    dsimp only
    rw [hu]
    simp
  unfold eachA
  rw [if_pos h, e]
  simp
/-- what is used is dropped -/
theorem drop_ok {p : PtrT} (h : ptrRight gs secs p = true) (hc : Cov gs secs sn (pstrs gs secs p ++ L)) : (eachA freeS gs secs sn p).1 = 0 ∧ Cov gs secs (eachA freeS gs secs sn p).2 L ∧ leftA sn < leftA (eachA freeS gs secs sn p).2 := by
  obtain ⟨h1, h2, h3⟩ := eachGo_free p.size (plN p) sn L hc (plN_takes h)
  unfold eachA
  rw [if_pos h, if_pos h1]
  refine ⟨h1, h2, ?_⟩
  have : 1 ≤ (plN p).length := by simp [plN]
  omega
/-- what is free isn't dropped -/
theorem drop_none {p : PtrT} (h : ptrRight gs secs p = true) (hc : Cov gs secs sn L) (hd : ∀ t ∈ L, Dis (stOf gs secs p.size (p.ag.toNat, p.aa.toNat)) t) : eachA freeS gs secs sn p = (7, sn) := by
  have ho := (ptrRight_strs h).1 (stOf gs secs p.size (p.ag.toNat, p.aa.toNat)) (by simp [pstrs, plN])
  have hu := hc.none ho hd
  have et : ((takesI gs secs p.ag.toNat p.size).toNat : Int) = takesI gs secs p.ag.toNat p.size := Int.toNat_of_nonneg (plN_takes h (p.ag.toNat, p.aa.toNat) (by simp [plN]))
  simp only [stOf, et] at hu
  have e : eachGo freeS gs secs p.size (plN p) sn = (7, sn) := by
    unfold plN eachGo
    dsimp only
    rw [hu]
    simp
  unfold eachA
  rw [if_pos h, e]
  simp
/-- what is free is marked -/
theorem mark_ok {p : PtrT} (h : ptrRight gs secs p = true) (hc : Cov gs secs sn L) (hd : ∀ s ∈ pstrs gs secs p, ∀ t ∈ L, Dis s t) : (eachA takeS gs secs sn p).1 = 0 ∧ Cov gs secs (eachA takeS gs secs sn p).2 (L ++ pstrs gs secs p) := by
  obtain ⟨a1, a2⟩ := ptrRight_strs h
  obtain ⟨h1, h2⟩ := eachGo_take p.size (plN p) sn L hc (fun x hx => ⟨a1 _ (List.mem_map_of_mem hx), plN_takes h x hx⟩) a2 (fun x hx => hd _ (List.mem_map_of_mem hx))
  unfold eachA
  rw [if_pos h, if_pos h1]
  exact ⟨h1, h2⟩
end
end Go.Proofs.Ytmnhdpojonlfhaa
