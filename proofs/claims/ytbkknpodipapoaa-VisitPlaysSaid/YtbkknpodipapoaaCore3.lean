/- Rows that are cleared, and rows some of whose elements are kept. No condition: lemmas over any program. -/
import Derived.Test.YtbkknpodipapoaaCore2
namespace Go.Proofs.Ytbkknpodipapoaa
open Go.RowKit

theorem zeroCells_mem {z : Array Value} {n : Nat} {u : Value} (hz : 0 < z.size) (h : u ∈ (Builtin.zeroCells z n).toList) : u ∈ z.toList := by
  simp only [Builtin.zeroCells, Array.toList_map, List.mem_map] at h
  obtain ⟨i, _, rfl⟩ := h
  have hlt : i % z.size < z.size := Nat.mod_lt _ hz
  rw [getElem!_pos z _ hlt]
  exact Array.getElem_mem_toList hlt
/-- clear, at elements of however many cells -/
theorem run_clear_rows {P : Program} (w : World) (t e ty : TypeId) (z : Value) (ht : P.underlying t = some (.slice e)) (hv : ∀ w, (zeroValue e).run P w = .ok z w) (K : Nat) (hz : z.cells.size = K) (hK : 0 < K) (h1 : ∀ u ∈ z.cells.toList, u.oneCell' = true) (b o n c : Nat) (hn : 0 < n)
    (hc : ∀ j, j < n * K → (w.cell? ⟨b, o + j, none⟩).isSome = true) (hf : ∀ j, j < n * K → w.frozen? ⟨b, o + j, none⟩ = false) :
    (Builtin.clear_ #[t] ty #[.slice (some ⟨b, o, none⟩) n c]).run P w = .ok (.tuple #[]) (w.setCells b o (Builtin.zeroCells z.cells n).toList) := by
  have hlen : (Builtin.zeroCells z.cells n).toList.length = n * K := by rw [Array.length_toList, size_zeroCells, hz]
  have hst := run_storeCells_cells (P := P) b o (Builtin.zeroCells z.cells n).toList 0 w (by rw [hlen]; simpa using hc) (by rw [hlen]; simpa using hf) (fun v hv' => h1 v (zeroCells_mem (by omega) hv'))
  simp only [Nat.add_zero] at hst
  obtain ⟨m, rfl⟩ : ∃ m, n = m + 1 := ⟨n - 1, by omega⟩
  simp [Builtin.clear_, run_underlying ht, hv, hst]
/-- an element's cells -/
def elemK (K : Nat) (cs : List Value) (j : Nat) : List Value := (cs.drop (j * K)).take K
/-- the cells of the elements of which p does not hold -/
def keepK (K : Nat) (cs : List Value) (p : Nat → Bool) (n : Nat) : List Value := ((List.range n).filter fun j => !p j).flatMap (elemK K cs)
def cntK (p : Nat → Bool) (n : Nat) : Nat := ((List.range n).filter fun j => !p j).length
theorem cntK_le (p : Nat → Bool) (n : Nat) : cntK p n ≤ n := by
  unfold cntK
  have := List.length_filter_le (fun j => !p j) (List.range n)
  simpa using this
theorem cntK_yes {p : Nat → Bool} {n : Nat} (h : p n = true) : cntK p (n + 1) = cntK p n := by
  unfold cntK; rw [List.range_succ, List.filter_append]; simp [h]
theorem cntK_no {p : Nat → Bool} {n : Nat} (h : p n = false) : cntK p (n + 1) = cntK p n + 1 := by
  unfold cntK; rw [List.range_succ, List.filter_append]; simp [h]
theorem keepK_yes {K : Nat} {cs : List Value} {p : Nat → Bool} {n : Nat} (h : p n = true) : keepK K cs p (n + 1) = keepK K cs p n := by
  unfold keepK; rw [List.range_succ, List.filter_append]; simp [h]
theorem keepK_no {K : Nat} {cs : List Value} {p : Nat → Bool} {n : Nat} (h : p n = false) : keepK K cs p (n + 1) = keepK K cs p n ++ elemK K cs n := by
  unfold keepK; rw [List.range_succ, List.filter_append]; simp [h]
theorem cntK_zero (p : Nat → Bool) : cntK p 0 = 0 := rfl
theorem keepK_zero (K : Nat) (cs : List Value) (p : Nat → Bool) : keepK K cs p 0 = [] := rfl
/-- none is dropped: all are kept -/
theorem keepK_all {K : Nat} {cs : List Value} {p : Nat → Bool} (n : Nat) (hl : n * K ≤ cs.length) (h : ∀ j, j < n → p j = false) : keepK K cs p n = cs.take (n * K) ∧ cntK p n = n := by
  induction n with
  | zero => simp [keepK_zero, cntK_zero]
  | succ n ih =>
    have hs : (n + 1) * K = n * K + K := Nat.succ_mul n K
    obtain ⟨h1, h2⟩ := ih (by omega) (fun j hj => h j (by omega))
    have hp := h n (by omega)
    refine ⟨?_, by rw [cntK_no hp, h2]⟩
    rw [keepK_no hp, h1, hs, List.take_add, elemK]
theorem firstIdx_neg {p : Nat → Bool} {n : Nat} (h : firstIdx p n = -1) : ∀ j, j < n → p j = false := by
  intro j hj
  cases hp : p j with
  | false => rfl
  | true =>
    have := firstIdx_ge p n
    rw [h] at this
    have h2 : (List.range n).any p = true := List.any_eq_true.2 ⟨j, by simpa using hj, hp⟩
    rw [h2] at this
    simp at this
theorem firstIdx_cases (p : Nat → Bool) (n : Nat) : (∀ j, j < n → p j = false) ∧ firstIdx p n = -1 ∨ ∃ i, i < n ∧ p i = true ∧ (∀ j, j < i → p j = false) ∧ firstIdx p n = i := by
  by_cases h : ∀ j, j < n → p j = false
  · exact .inl ⟨h, firstIdx_none h⟩
  · right
    have hex : ∃ j, j < n ∧ p j = true := by
      simp only [Classical.not_forall] at h
      obtain ⟨j, hj, hp⟩ := h
      exact ⟨j, hj, by simpa using hp⟩
    obtain ⟨j, hj, hp⟩ := hex
    have key : ∀ m, (∃ i, i < m ∧ p i = true ∧ ∀ t, t < i → p t = false) ∨ ∀ t, t < m → p t = false := by
      intro m
      induction m with
      | zero => exact .inr fun t ht => absurd ht (by omega)
      | succ m ih =>
        rcases ih with ⟨i, hi, hpi, hno⟩ | hno
        · exact .inl ⟨i, by omega, hpi, hno⟩
        · cases hpm : p m with
          | true => exact .inl ⟨m, by omega, hpm, hno⟩
          | false =>
            refine .inr fun t ht => ?_
            by_cases e : t = m
            · rw [e]; exact hpm
            · exact hno t (by omega)
    rcases key n with ⟨i, hi, hpi, hno⟩ | hno
    · exact ⟨i, hi, hpi, hno, firstIdx_at hi hpi hno⟩
    · rw [hno j hj] at hp; cases hp
theorem getD_mem {cs : List Value} {j : Nat} (h : j < cs.length) : cs.getD j undef ∈ cs := by
  rw [List.getD_eq_getElem?_getD, List.getElem?_eq_getElem h]
  exact List.getElem_mem h
theorem grown_setCell {w w' : World} {g j : Nat} {u : Value} (h : w.grownBy w' (some g)) : w.grownBy (w'.setCell ⟨g, j, none⟩ u) (some g) := by
  refine grown_trans h ⟨rfl, rfl, rfl, by simp [World.setCell], fun k _ hne => ?_⟩
  exact heap_setCell_other w' ⟨g, j, none⟩ k u (fun e => hne (by simp [e]))
end Go.Proofs.Ytbkknpodipapoaa
