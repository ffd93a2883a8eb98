/- A pool's measure: plain lemmas, no program. -/
namespace Go.Proofs.Ytmnhdpojonlfhaa

/-- a group is right -/
def oneB (k w : Int) : Bool := decide (k = 0 ∧ 1 ≤ w ∧ w ≤ 8 ∨ k = 1 ∧ 3 ≤ w ∧ w ≤ 8)
abbrev Gs := List (Int × Int)
def gsOk (gs : Gs) : Bool := gs.all fun g => oneB g.1 g.2
def rightB (gs : Gs) (secs : Int) : Bool := decide (1 ≤ gs.length ∧ gs.length ≤ 4 ∧ 24 ≤ secs ∧ secs ≤ 4096) && gsOk gs
def hasB (gs : Gs) (secs i : Int) : Bool := rightB gs secs && decide (0 ≤ i ∧ i < gs.length)
def sect (g : Int × Int) (secs : Int) : Int := if g.1 = 1 then (secs - 16) * g.2 else secs - 16
def sectI (gs : Gs) (secs i : Int) : Int := if hasB gs secs i = true then sect (gs.getD i.toNat (0, 0)) secs else 0
def par_ (w size : Int) : Int := size + (size + w - 2) / (w - 1)
def takes (g : Int × Int) (size : Int) : Int := if g.1 = 0 then size else par_ g.2 size + par_ g.2 size % 2
def takesI (gs : Gs) (secs i size : Int) : Int := if hasB gs secs i = true ∧ 1 ≤ size ∧ size ≤ 4 then takes (gs.getD i.toNat (0, 0)) size else 0
def wsum (gs : Gs) (k : Nat) : Int := ((gs.take k).map (·.2)).sum

theorem rightB_spec {gs : Gs} {secs : Int} (h : rightB gs secs = true) : 1 ≤ gs.length ∧ gs.length ≤ 4 ∧ 24 ≤ secs ∧ secs ≤ 4096 ∧ ∀ g ∈ gs, (g.1 = 0 ∧ 1 ≤ g.2 ∧ g.2 ≤ 8 ∨ g.1 = 1 ∧ 3 ≤ g.2 ∧ g.2 ≤ 8) := by
  unfold rightB at h
  rw [Bool.and_eq_true, decide_eq_true_eq] at h
  obtain ⟨⟨h1, h2, h3, h4⟩, h5⟩ := h
  refine ⟨h1, h2, h3, h4, fun g hg => ?_⟩
  have := List.all_eq_true.1 h5 g hg
  simpa [oneB] using this
theorem getD_right {gs : Gs} {secs : Int} (h : rightB gs secs = true) {i : Nat} (hi : i < gs.length) : (gs.getD i (0, 0)).1 = 0 ∧ 1 ≤ (gs.getD i (0, 0)).2 ∧ (gs.getD i (0, 0)).2 ≤ 8 ∨ (gs.getD i (0, 0)).1 = 1 ∧ 3 ≤ (gs.getD i (0, 0)).2 ∧ (gs.getD i (0, 0)).2 ≤ 8 := by
  refine (rightB_spec h).2.2.2.2 _ ?_
  rw [List.getD_eq_getElem?_getD, List.getElem?_eq_getElem hi]
  exact List.getElem_mem _
theorem hasB_spec {gs : Gs} {secs i : Int} (h : hasB gs secs i = true) : rightB gs secs = true ∧ 0 ≤ i ∧ i < gs.length := by
  unfold hasB at h
  rw [Bool.and_eq_true, decide_eq_true_eq] at h
  exact ⟨h.1, h.2⟩
theorem hasB_mk {gs : Gs} {secs i : Int} (h : rightB gs secs = true) (h0 : 0 ≤ i) (h1 : i < gs.length) : hasB gs secs i = true := by
  unfold hasB; rw [h]; simp [h0, h1]
theorem mul_bd {a w : Int} (h0 : 0 ≤ a) (h1 : a ≤ 4096) (h2 : 0 ≤ w) (h3 : w ≤ 8) : 0 ≤ a * w ∧ a * w ≤ 32768 ∧ (3 ≤ w → a * 3 ≤ a * w) := by
  refine ⟨Int.mul_nonneg h0 h2, ?_, fun h => Int.mul_le_mul_of_nonneg_left h h0⟩
  have := Int.mul_le_mul h1 h3 h2 (by omega)
  omega
theorem sect_bd {g : Int × Int} {secs : Int} (h : g.1 = 0 ∧ 1 ≤ g.2 ∧ g.2 ≤ 8 ∨ g.1 = 1 ∧ 3 ≤ g.2 ∧ g.2 ≤ 8) (h1 : 24 ≤ secs) (h2 : secs ≤ 4096) : 8 ≤ sect g secs ∧ sect g secs ≤ 32768 ∧ (g.1 = 1 → 24 ≤ sect g secs) := by
  unfold sect
  rcases h with ⟨k, w1, w2⟩ | ⟨k, w1, w2⟩
  · rw [if_neg (by omega)]; omega
  · rw [if_pos k]
    have := mul_bd (a := secs - 16) (w := g.2) (by omega) (by omega) (by omega) w2
    have h3 := this.2.2 w1
    omega
theorem par_bd {w size : Int} (h1 : 3 ≤ w) (h2 : w ≤ 8) (h3 : 1 ≤ size) (h4 : size ≤ 4) : 0 ≤ (size + w - 2) / (w - 1) ∧ (size + w - 2) / (w - 1) ≤ 2 ∧ 2 ≤ par_ w size ∧ par_ w size ≤ 6 := by
  unfold par_
  have : w = 3 ∨ w = 4 ∨ w = 5 ∨ w = 6 ∨ w = 7 ∨ w = 8 := by omega
  rcases this with rfl | rfl | rfl | rfl | rfl | rfl <;> omega
theorem takes_bd {g : Int × Int} {size : Int} (h : g.1 = 0 ∧ 1 ≤ g.2 ∧ g.2 ≤ 8 ∨ g.1 = 1 ∧ 3 ≤ g.2 ∧ g.2 ≤ 8) (h3 : 1 ≤ size) (h4 : size ≤ 4) : 1 ≤ takes g size ∧ takes g size ≤ 6 ∧ (g.1 = 1 → 2 ≤ takes g size) ∧ (g.1 = 0 → takes g size = size) := by
  unfold takes
  rcases h with ⟨k, w1, w2⟩ | ⟨k, w1, w2⟩
  · rw [if_pos k]; omega
  · rw [if_neg (by omega)]
    have := par_bd w1 w2 h3 h4
    unfold par_ at *
    have : g.2 = 3 ∨ g.2 = 4 ∨ g.2 = 5 ∨ g.2 = 6 ∨ g.2 = 7 ∨ g.2 = 8 := by omega
    rcases this with e | e | e | e | e | e <;> rw [e] at * <;> omega
theorem wsum_step (gs : Gs) (k : Nat) (h : k < gs.length) : wsum gs (k + 1) = wsum gs k + (gs.getD k (0, 0)).2 := by
  unfold wsum
  rw [List.take_succ_eq_append_getElem h, List.map_append, List.sum_append, List.getD_eq_getElem?_getD, List.getElem?_eq_getElem h]
  simp
theorem wsum_bd {gs : Gs} {secs : Int} (h : rightB gs secs = true) : ∀ k, k ≤ gs.length → 0 ≤ wsum gs k ∧ wsum gs k ≤ 8 * k := by
  intro k
  induction k with
  | zero => intro _; simp [wsum]
  | succ k ih =>
    intro hk
    have := ih (by omega)
    have hg := getD_right h (show k < gs.length by omega)
    rw [wsum_step gs k (by omega)]
    omega
end Go.Proofs.Ytmnhdpojonlfhaa
