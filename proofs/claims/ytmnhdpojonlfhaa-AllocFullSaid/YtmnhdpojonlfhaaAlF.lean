/- The plain law of a book that is filled with blocks of one size. -/
import Derived.Test.YtmnhdpojonlfhaaAlE
namespace Go.Proofs.Ytmnhdpojonlfhaa
open Go.RowKit

/-- what a block of a size takes of a group -/
def tk (gs : Gs) (secs size : Int) (g : Nat) : Nat := (takesI gs secs g size).toNat
/-- the runs of a group that is used up to a sector -/
def preR (e : Nat) : List (Nat × Nat) := if e = 0 then [] else [(0, e)]
theorem preR_good {size e : Nat} (h : e ≤ size) : Good size (preR e) := by
  unfold preR
  split
  · exact ⟨by simp, List.Pairwise.nil⟩
  · exact ⟨fun r hr => by rw [List.mem_singleton.1 hr]; dsimp only; omega, List.pairwise_singleton _ _⟩
theorem preR_us (e x : Nat) : Us (preR e) x ↔ x < e := by
  unfold preR
  split
  · constructor
    · exact fun h => absurd h (Us_nil x)
    · omega
  · rw [Us_one]; dsimp only; omega
theorem preR_sum (e : Nat) : sumR (preR e) = e := by
  unfold preR
  split
  · rename_i h; rw [h]; rfl
  · simp [sumR]
theorem pre_find {size e t : Nat} (ht : 1 ≤ t) (he : e ≤ size) : findS size (preR e) (t : Nat) (e : Nat) = if e + t ≤ size then some e else none := by
  have h1 : fitS size (preR e) (t : Nat) e = if e + t ≤ size then some e else none := by
    unfold fitS
    have hd : (preR e).drop (firstOf (preR e) e) = [] := by
      unfold preR
      split
      · simp
      · rename_i h0
        have : firstOf [(0, e)] e = 1 := by simp [firstOf, List.findIdx_cons]
        rw [this]; rfl
    rw [hd, fitGo]
    by_cases hc : e + t ≤ size
    · rw [if_pos hc, if_pos (by omega)]
    · rw [if_neg hc, if_neg (by omega)]
  have h0 : ¬ e + t ≤ size → fitS size (preR e) (t : Nat) 0 = none := by
    intro hc
    cases hf : fitS size (preR e) (t : Nat) 0 with
    | none => rfl
    | some q =>
      exfalso
      obtain ⟨_, a2, a3, _⟩ := (fitS_spec (preR_good he) ht).1 q hf
      by_cases hq : q < e
      · exact a3 q (Nat.le_refl _) (by omega) ((preR_us e q).2 hq)
      · omega
  unfold findS
  rw [if_pos ⟨by omega, by omega, by omega⟩, Int.toNat_natCast, h1]
  by_cases hc : e + t ≤ size
  · rw [if_pos hc]
  · rw [if_neg hc]; exact h0 hc
theorem pre_take {size e t : Nat} (ht : 1 ≤ t) (h : e + t ≤ size) : (takeS size (preR e) (e : Nat) (t : Nat)).2 = preR (e + t) := by
  have hg := preR_good (size := size) (e := e) (by omega)
  rcases takeS_spec hg (e : Nat) (t : Nat) with ⟨hn, _⟩ | ⟨_, ⟨x, x1, x2, x3⟩, _⟩ | ⟨_, _, _, hus, _⟩
  · exact absurd ⟨by omega, by omega, by omega, by omega⟩ hn
  · simp only [Int.toNat_natCast] at x1 x2
    have := (preR_us e x).1 x3
    omega
  · simp only [Int.toNat_natCast] at hus
    refine good_uniq (takeS_good hg _ _) (preR_good h) fun x => ?_
    rw [hus, preR_us, preR_us]
    omega

theorem sum_set : ∀ (c : List Nat) (g : Nat), g < c.length → (c.set g (c.getD g 0 + 1)).sum = c.sum + 1
  | [], g, h => by simp at h
  | a :: c, 0, _ => by simp; omega
  | a :: c, g + 1, h => by
    have ih := sum_set c g (by simpa using h)
    simp only [List.set_cons_succ, List.sum_cons, List.getD_cons_succ]
    omega
theorem sum_le : ∀ (c : List Nat) (b : Nat), (∀ g, g < c.length → c.getD g 0 ≤ b) → c.sum ≤ b * c.length
  | [], b, _ => by simp
  | a :: c, b, h => by
    have ih := sum_le c b (fun g hg => by have := h (g + 1) (by simpa using hg); simpa using this)
    have h0 := h 0 (by simp)
    simp only [List.getD_cons_zero] at h0
    simp only [List.sum_cons, List.length_cons, Nat.mul_succ]
    omega
/-- a book that is filled from the front of each group on -/
structure Full (gs : Gs) (secs size : Int) (sn : SN) (es c : List Nat) : Prop where
  inv : Inv gs secs sn es
  clen : c.length = gs.length
  pre : ∀ g, g < gs.length → (sn.getD g sD).2 = preR (es.getD g 0) ∧ es.getD g 0 = tk gs secs size g * c.getD g 0
section
variable {gs : Gs} {secs size : Int} {sn : SN} {es c : List Nat}
theorem tk_spec (hr : rightB gs secs = true) (h1 : 1 ≤ size) (h2 : size ≤ 4) {g : Nat} (hg : g < gs.length) : takesI gs secs g size = (tk gs secs size g : Nat) ∧ 1 ≤ tk gs secs size g ∧ tk gs secs size g ≤ 6 ∧ tk gs secs size g ≤ (sect (gs.getD g (0, 0)) secs).toNat := by
  obtain ⟨t, ht, t1, t6, ts⟩ := takes_nat hr hg h1 h2
  have : tk gs secs size g = t := by unfold tk; rw [ht, Int.toNat_natCast]
  rw [this]
  exact ⟨ht, t1, t6, ts⟩
theorem Full.find (h : Full gs secs size sn es c) (h1 : 1 ≤ size) (h2 : size ≤ 4) {g : Nat} (hg : g < gs.length) : findA gs secs sn es size g = if es.getD g 0 + tk gs secs size g ≤ (sect (gs.getD g (0, 0)) secs).toNat then some (es.getD g 0) else none := by
  obtain ⟨a1, a2, _, _⟩ := tk_spec h.inv.right h1 h2 hg
  have he := h.inv.ends g hg
  unfold findA
  rw [a1, (h.pre g hg).1]
  rw [h.inv.size g hg] at he ⊢
  exact pre_find a2 he
theorem Full.count (h : Full gs secs size sn es c) (h1 : 1 ≤ size) (h2 : size ≤ 4) (hs : secs ≤ 200) : c.sum ≤ 2944 := by
  have hr := rightB_spec h.inv.right
  have : c.sum ≤ 736 * c.length := sum_le c 736 fun g hg => by
    rw [h.clen] at hg
    obtain ⟨a1, a2, _, _⟩ := tk_spec h.inv.right h1 h2 hg
    have he := h.inv.ends g hg
    rw [h.inv.size g hg, (h.pre g hg).2] at he
    have hgr := getD_right h.inv.right hg
    have htb := takes_bd hgr h1 h2
    have htk : takesI gs secs g size = takes (gs.getD g (0, 0)) size := by
      unfold takesI
      rw [if_pos ⟨hasB_mk h.inv.right (by omega) (by omega), h1, h2⟩, Int.toNat_natCast]
    rw [htk] at a1
    obtain ⟨t, ht⟩ : ∃ t, t = tk gs secs size g := ⟨_, rfl⟩
    obtain ⟨k, hk⟩ : ∃ k, k = c.getD g 0 := ⟨_, rfl⟩
    rw [← ht] at a1 a2 he
    rw [← hk] at he ⊢
    rcases hgr with ⟨k0, w1, w2⟩ | ⟨k0, w1, w2⟩
    · have hsz : sect (gs.getD g (0, 0)) secs = secs - 16 := by unfold sect; rw [if_neg (by omega)]
      rw [hsz] at he
      have h3 : 1 * k ≤ t * k := Nat.mul_le_mul_right _ a2
      omega
    · have hsz : sect (gs.getD g (0, 0)) secs = (secs - 16) * (gs.getD g (0, 0)).2 := by unfold sect; rw [if_pos k0]
      have hm : (secs - 16) * (gs.getD g (0, 0)).2 ≤ 184 * 8 := by
        have b1 : (secs - 16) * (gs.getD g (0, 0)).2 ≤ 184 * (gs.getD g (0, 0)).2 := Int.mul_le_mul_of_nonneg_right (by omega) (by omega)
        omega
      rw [hsz] at he
      have h2t := htb.2.2.1 k0
      have h3 : 2 * k ≤ t * k := Nat.mul_le_mul_right _ (by omega)
      omega
  have hl := h.clen
  have : 736 * c.length ≤ 736 * 4 := Nat.mul_le_mul_left _ (by omega)
  omega
/-- one block more, or no room in any group -/
theorem Full.get (h : Full gs secs size sn es c) (h1 : 1 ≤ size) (h2 : size ≤ 4) :
    ((getA gs secs sn es size false).err = 8 ∧ (getA gs secs sn es size false).sn = sn ∧ (getA gs secs sn es size false).es = es ∧ ∀ g, g < gs.length → (sect (gs.getD g (0, 0)) secs).toNat < es.getD g 0 + tk gs secs size g) ∨
    ((getA gs secs sn es size false).err = 0 ∧ (getA gs secs sn es size false).q = (0, 0) ∧ ∃ c', c'.sum = c.sum + 1 ∧ Full gs secs size (getA gs secs sn es size false).sn (getA gs secs sn es size false).es c') := by
  rcases oneA_spec gs secs sn es size (-1) with ⟨h0, hno⟩ | ⟨x, h0, hx, hf, _⟩
  · have hg : getA gs secs sn es size false = ⟨(0, 0), (0, 0), 8, sn, es⟩ := by unfold getA; rw [if_pos ⟨h1, h2⟩, h0]
    rw [hg]
    refine .inl ⟨rfl, rfl, rfl, fun g hg => ?_⟩
    have := hno g hg
    rw [h.find h1 h2 hg] at this
    split at this
    · simp at this
    · omega
  · have hg : getA gs secs sn es size false = ⟨x, (0, 0), 0, putS gs secs sn size x, putE gs secs es size x⟩ := by unfold getA; rw [if_pos ⟨h1, h2⟩, h0]; rfl
    rw [hg]
    have hi := h.inv.put h1 h2 hx hf
    obtain ⟨a1, a2, a3, a4⟩ := tk_spec h.inv.right h1 h2 hx
    have hfit := h.find h1 h2 hx
    rw [hf] at hfit
    have hle : es.getD x.1 0 + tk gs secs size x.1 ≤ (sect (gs.getD x.1 (0, 0)) secs).toNat ∧ x.2 = es.getD x.1 0 := by
      split at hfit
      · rename_i hc
        exact ⟨hc, by simpa using hfit⟩
      · simp at hfit
    refine .inr ⟨rfl, rfl, c.set x.1 (c.getD x.1 0 + 1), sum_set c x.1 (by rw [h.clen]; exact hx), ⟨hi, by rw [List.length_set]; exact h.clen, fun g hg => ?_⟩⟩
    by_cases e : g = x.1
    · subst e
      have e1 : (putS gs secs sn size x).getD x.1 sD = ((sn.getD x.1 sD).1, (takeS (sn.getD x.1 sD).1 (sn.getD x.1 sD).2 (x.2 : Nat) (takesI gs secs x.1 size)).2) := by
        unfold putS; rw [getD_set_same _ _ _ _ (by rw [h.inv.slen]; exact hx)]
      have e2 : (putE gs secs es size x).getD x.1 0 = x.2 + (takesI gs secs x.1 size).toNat := by
        unfold putE; rw [getD_set_same _ _ _ _ (by rw [h.inv.elen]; exact hx)]
      have e3 : (c.set x.1 (c.getD x.1 0 + 1)).getD x.1 0 = c.getD x.1 0 + 1 := getD_set_same _ _ _ _ (by rw [h.clen]; exact hx)
      dsimp only
      rw [e1, e2, e3, a1, Int.toNat_natCast, hle.2, (h.pre _ hx).1, h.inv.size _ hx]
      dsimp only
      refine ⟨pre_take a2 hle.1, ?_⟩
      rw [Nat.mul_succ, ← (h.pre _ hx).2]
    · have e1 : (putS gs secs sn size x).getD g sD = sn.getD g sD := by unfold putS; rw [getD_set_other _ _ _ _ _ (fun e' => e e'.symm)]
      have e2 : (putE gs secs es size x).getD g 0 = es.getD g 0 := by unfold putE; rw [getD_set_other _ _ _ _ _ (fun e' => e e'.symm)]
      have e3 : (c.set x.1 (c.getD x.1 0 + 1)).getD g 0 = c.getD g 0 := getD_set_other _ _ _ _ _ (fun e' => e e'.symm)
      dsimp only
      rw [e1, e2, e3]
      exact h.pre g hg
theorem leftA_le (b : Int) : ∀ (sn : SN), (∀ g, g < sn.length → ((sn.getD g sD).1 : Int) - (sumR (sn.getD g sD).2 : Int) ≤ b) → leftA sn ≤ b * sn.length
  | [], _ => by simp [leftA]
  | s :: sn, h => by
    have ih := leftA_le b sn (fun g hg => by have := h (g + 1) (by simpa using hg); simpa using this)
    have h0 := h 0 (by simp)
    simp only [List.getD_cons_zero] at h0
    have e : leftA (s :: sn) = ((s.1 : Int) - (sumR s.2 : Int)) + leftA sn := by simp [leftA]
    rw [e, List.length_cons]
    have : b * ((sn.length + 1 : Nat) : Int) = b * (sn.length : Int) + b := by rw [show ((sn.length + 1 : Nat) : Int) = (sn.length : Int) + 1 by omega, Int.mul_add, Int.mul_one]
    omega
/-- little is left -/
theorem Full.left (h : Full gs secs size sn es c) (h1 : 1 ≤ size) (h2 : size ≤ 4) (hno : ∀ g, g < gs.length → (sect (gs.getD g (0, 0)) secs).toNat < es.getD g 0 + tk gs secs size g) : leftA sn ≤ 7 * (gs.length : Int) := by
  have := leftA_le 7 sn fun g hg => by
    rw [h.inv.slen] at hg
    have a := tk_spec h.inv.right h1 h2 hg
    have b := hno g hg
    rw [h.inv.size g hg, (h.pre g hg).1, preR_sum]
    omega
  rwa [h.inv.slen] at this
/-- an empty book has room -/
theorem Full.room (h : Full gs secs size sn es c) (h1 : 1 ≤ size) (h2 : size ≤ 4) (hc : Cov gs secs sn []) (hno : ∀ g, g < gs.length → (sect (gs.getD g (0, 0)) secs).toNat < es.getD g 0 + tk gs secs size g) : False := by
  have hg : 0 < gs.length := by have := (rightB_spec h.inv.right).1; omega
  have a := tk_spec h.inv.right h1 h2 hg
  have b := hno 0 hg
  have f := hc.fresh 0 hg
  have p := (h.pre 0 hg).1
  rw [f] at p
  dsimp only at p
  have e0 : es.getD 0 0 = 0 := by
    unfold preR at p
    split at p
    · assumption
    · simp at p
  omega
/-- what is dropped is had again -/
theorem Full.again (h : Full gs secs size sn es c) (h1 : 1 ≤ size) (h2 : size ≤ 4) (hno : ∀ g, g < gs.length → (sect (gs.getD g (0, 0)) secs).toNat < es.getD g 0 + tk gs secs size g) {x : Nat × Nat} (hr : ptrRight gs secs (mkP x (0, 0) false size) = true)
    (hd : (eachA freeS gs secs sn (mkP x (0, 0) false size)).1 = 0) : (getA gs secs (eachA freeS gs secs sn (mkP x (0, 0) false size)).2 es size false).err = 0 ∧ (getA gs secs (eachA freeS gs secs sn (mkP x (0, 0) false size)).2 es size false).p = x := by
  have hx : x.1 < gs.length := by have := (mayC_spec (ptrRight_may hr).1).2.2.1; simp only [mkP] at this; omega
  obtain ⟨a1, a2, a3, a4⟩ := tk_spec h.inv.right h1 h2 hx
  obtain ⟨t, ht⟩ : ∃ t, t = tk gs secs size x.1 := ⟨_, rfl⟩
  obtain ⟨E, hE⟩ : ∃ E, E = es.getD x.1 0 := ⟨_, rfl⟩
  obtain ⟨top, htop⟩ : ∃ top, top = (sect (gs.getD x.1 (0, 0)) secs).toNat := ⟨_, rfl⟩
  have hpre := (h.pre x.1 hx).1
  have hsz := h.inv.size x.1 hx
  have hends := h.inv.ends x.1 hx
  have hnx := hno x.1 hx
  rw [hsz] at hends
  rw [← ht] at a1 a2 a3 a4 hnx
  rw [← hE] at hpre hnx hends
  rw [← htop] at hsz hnx hends
  have hgE := preR_good hends
  have hgo : eachGo freeS gs secs size (plN (mkP x (0, 0) false size)) sn = if (freeS top (preR E) (x.2 : Nat) (t : Nat)).1 = 0 then (0, setG sn x.1 (freeS top (preR E) (x.2 : Nat) (t : Nat)).2) else ((freeS top (preR E) (x.2 : Nat) (t : Nat)).1, sn) := by
    rw [plN_mk]
    simp only [if_neg (show ¬ (false = true) by decide)]
    unfold eachGo
    rw [hpre, hsz, a1]
    rfl
  have heach : eachA freeS gs secs sn (mkP x (0, 0) false size) = if (eachGo freeS gs secs size (plN (mkP x (0, 0) false size)) sn).1 = 0 then eachGo freeS gs secs size (plN (mkP x (0, 0) false size)) sn else ((eachGo freeS gs secs size (plN (mkP x (0, 0) false size)) sn).1, sn) := by
    unfold eachA
    rw [if_pos hr]
    rfl
  have h0 : (freeS top (preR E) (x.2 : Nat) (t : Nat)).1 = 0 := by
    apply Classical.byContradiction
    intro hne
    rw [heach, hgo, if_neg hne] at hd
    dsimp only at hd
    rw [if_neg hne] at hd
    exact hne hd
  have hsn : (eachA freeS gs secs sn (mkP x (0, 0) false size)).2 = setG sn x.1 (freeS top (preR E) (x.2 : Nat) (t : Nat)).2 := by
    rw [heach, hgo, if_pos h0]
    simp
  rw [hsn]
  have hgF := freeS_good hgE (x.2 : Nat) (t : Nat)
  rcases freeS_spec hgE (x.2 : Nat) (t : Nat) with ⟨_, e⟩ | ⟨_, _, e⟩ | ⟨hm, hall, _, hus, _⟩
  · rw [e] at h0; simp at h0
  · rw [e] at h0; simp at h0
  · simp only [Int.toNat_natCast] at hall hus
    obtain ⟨F, hF⟩ : ∃ F, F = (freeS top (preR E) (x.2 : Nat) (t : Nat)).2 := ⟨_, rfl⟩
    rw [← hF] at hgF hus ⊢
    have hus' : ∀ y, Us F y ↔ y < E ∧ ¬ (x.2 ≤ y ∧ y < x.2 + t) := fun y => by rw [hus, preR_us]
    have hxE : x.2 + t ≤ E := by
      have := (preR_us E (x.2 + t - 1)).1 (hall _ (by omega) (by omega))
      omega
    have hl : x.1 < sn.length := by rw [h.inv.slen]; exact hx
    have hfx : findA gs secs (setG sn x.1 F) es size x.1 = some x.2 := by
      unfold findA
      rw [setG_same hl, a1, hsz, ← hE]
      dsimp only
      unfold findS
      rw [if_pos ⟨by omega, by omega, by omega⟩, Int.toNat_natCast]
      have f1 : fitS top F (t : Nat) E = none := by
        cases hf : fitS top F (t : Nat) E with
        | none => rfl
        | some q =>
          obtain ⟨b1, b2, _, _⟩ := (fitS_spec hgF a2).1 q hf
          omega
      rw [f1]
      dsimp only
      cases hf : fitS top F (t : Nat) 0 with
      | none =>
        obtain ⟨y, y1, y2, y3⟩ := (fitS_spec hgF a2).2 hf x.2 (Nat.zero_le _) (by omega)
        exact absurd ⟨y1, y2⟩ ((hus' y).1 y3).2
      | some q =>
        obtain ⟨_, b2, b3, b4⟩ := (fitS_spec hgF a2).1 q hf
        have h5 : q ≤ x.2 := by
          apply Classical.byContradiction
          intro hc
          obtain ⟨y, y1, y2, y3⟩ := b4 x.2 (Nat.zero_le _) (by omega)
          exact absurd ⟨y1, y2⟩ ((hus' y).1 y3).2
        have h6 : ¬ q < x.2 := fun hc => b3 q (Nat.le_refl _) (by omega) ((hus' q).2 ⟨by omega, by omega⟩)
        rw [show q = x.2 by omega]
    have hother : ∀ g, g < gs.length → g ≠ x.1 → findA gs secs (setG sn x.1 F) es size g = none := fun g hg hne => by
      have : findA gs secs (setG sn x.1 F) es size g = findA gs secs sn es size g := by unfold findA; rw [setG_other hne]
      rw [this, h.find h1 h2 hg, if_neg (by have := hno g hg; omega)]
    rcases oneA_spec gs secs (setG sn x.1 F) es size (-1) with ⟨_, hn⟩ | ⟨y, hy, hyl, hyf, _⟩
    · rw [hn x.1 hx] at hfx; simp at hfx
    · have hy1 : y.1 = x.1 := Classical.byContradiction fun hne => by rw [hother y.1 hyl hne] at hyf; simp at hyf
      rw [hy1, hfx] at hyf
      have hy2 : y = x := Prod.ext hy1 (by simpa using hyf.symm)
      subst hy2
      have hg : getA gs secs (setG sn y.1 F) es size false = ⟨y, (0, 0), 0, putS gs secs (setG sn y.1 F) size y, putE gs secs es size y⟩ := by unfold getA; rw [if_pos ⟨h1, h2⟩, hy]; rfl
      rw [hg]
      exact ⟨rfl, rfl⟩
end
end Go.Proofs.Ytmnhdpojonlfhaa
