/- Rows of pointers told by a function from places; the walk of swapRange. -/
import Derived.Test.YtbkknpodipapoaaVsB
import Derived.Test.YtbkknpodipapoaaPtT
import Derived.Deep.MidRow
import Derived.Deep.DrawnRows
import Derived.Deep.QuietTactic
import Derived.BigQuiet
import Derived.BigRegion
namespace Go.Proofs.Ytbkknpodipapoaa
open Go.RowKit
set_option linter.unusedSimpArgs false
attribute [local go_sem ↓] Go.wp_at_zero Go.wp_at_succ

def setL : List Value → Nat → List Value → List Value
  | xs, _, [] => xs
  | xs, o, v :: vs => setL (xs.set o v) (o + 1) vs
theorem setL_length : ∀ (vs xs : List Value) (o : Nat), (setL xs o vs).length = xs.length
  | [], _, _ => rfl
  | v :: vs, xs, o => by rw [setL, setL_length vs]; simp
theorem setL_get : ∀ (vs xs : List Value) (o j : Nat), o + vs.length ≤ xs.length → (setL xs o vs)[j]? = if o ≤ j ∧ j < o + vs.length then vs[j - o]? else xs[j]?
  | [], xs, o, j, _ => by rw [setL, if_neg (by simp only [List.length_nil]; omega)]
  | v :: vs, xs, o, j, h => by
    simp only [List.length_cons] at h
    rw [setL, setL_get vs (xs.set o v) (o + 1) j (by simp; omega)]
    by_cases e : j = o
    · subst e
      rw [if_neg (by omega), if_pos (by simp), Nat.sub_self, List.getElem?_set]
      simp
      omega
    · by_cases e2 : o + 1 ≤ j ∧ j < o + 1 + vs.length
      · rw [if_pos e2, if_pos (by simp; omega), show j - o = (j - (o + 1)) + 1 by omega, List.getElem?_cons_succ]
      · rw [if_neg e2, if_neg (by simp; omega), List.getElem?_set_ne (by omega)]
theorem owns_setL {w : World} {base e size n cap g : Nat} : ∀ (vs : List Value) {w : World} {xs : List Value} (o : Nat), w.ownsRow base e size (.slice (some ⟨g, 0, none⟩) n cap) n xs → (w.setCells g o vs).ownsRow base e size (.slice (some ⟨g, 0, none⟩) n cap) n (setL xs o vs)
  | [], _, _, _, h => h
  | v :: vs, _, _, o, h => owns_setL (w := w) vs (o + 1) (h.stored o v).1

/-- the cells of a row of things in an order -/
def encE (el : Nat → PtrT) (f : Nat → Nat) (n : Nat) : List Value := (List.range n).flatMap fun p => encPtr (el (f p))
theorem encE_ps (el : Nat → PtrT) (f : Nat → Nat) (n : Nat) : encE el f n = encPs ((List.range n).map fun p => el (f p)) := by simp [encE, encPs, List.flatMap_map]
theorem encE_length (el : Nat → PtrT) (f : Nat → Nat) (n : Nat) : (encE el f n).length = n * 12 := by rw [encE_ps, encPs_length]; simp
theorem encE_get (el : Nat → PtrT) (f : Nat → Nat) (n p i : Nat) (hp : p < n) (hi : i < 12) : (encE el f n)[p * 12 + i]? = (encPtr (el (f p)))[i]? := by
  rw [encE_ps, encPs_get _ _ _ (by simpa using hp) hi]
  simp [List.getD, hp]
theorem encE_one (el : Nat → PtrT) (f : Nat → Nat) (n : Nat) : ∀ u ∈ encE el f n, u.oneCell' = true := by rw [encE_ps]; exact encPs_one _
def upd (f : Nat → Nat) (p x q : Nat) : Nat := if q = p then x else f q
theorem encPtr_length (p : PtrT) : (encPtr p).length = 12 := rfl
theorem encE_upd (el : Nat → PtrT) (f : Nat → Nat) (n p x : Nat) (hp : p < n) : setL (encE el f n) (p * 12) (encPtr (el x)) = encE el (upd f p x) n := by
  apply List.ext_getElem?
  intro j
  have hl := encE_length el f n
  rw [setL_get _ _ _ _ (by rw [hl, encPtr_length]; omega), encPtr_length]
  by_cases hj : j < n * 12
  · have hq : j / 12 < n := by omega
    have hr : j % 12 < 12 := by omega
    have hjj : j = j / 12 * 12 + j % 12 := by omega
    by_cases e : j / 12 = p
    · rw [if_pos (by omega), hjj, encE_get _ _ _ _ _ hq hr]
      unfold upd
      rw [if_pos e]
      congr 1
      omega
    · rw [if_neg (by omega), hjj, encE_get _ _ _ _ _ hq hr, encE_get _ _ _ _ _ hq hr]
      unfold upd
      rw [if_neg e]
  · rw [if_neg (by omega), List.getElem?_eq_none (by omega), List.getElem?_eq_none (by rw [encE_length]; omega)]
theorem encE_congr {el : Nat → PtrT} {f g : Nat → Nat} {n : Nat} (h : ∀ p, p < n → f p = g p) : encE el f n = encE el g n := by
  unfold encE
  rw [List.flatMap_def, List.flatMap_def]
  congr 1
  exact List.map_congr_left fun p hp => by rw [h p (List.mem_range.1 hp)]
section
variable {w : World} {base g n cap : Nat} {el : Nat → PtrT} {f : Nat → Nat}
theorem row_range (h : w.ownsRow base 30 12 (.slice (some ⟨g, 0, none⟩) n cap) n (encE el f n)) {p : Nat} (hp : p < n) : w.rangeAt g (p * 12) (encPtr (el (f p))) := fun j v hv => by
  have hj : j < 12 := by have := (List.getElem?_eq_some_iff.1 hv).1; rwa [encPtr_length] at this
  rw [h.cellAt _ (by omega), encE_get _ _ _ _ _ hp hj, hv]
theorem row_there (h : w.ownsRow base 30 12 (.slice (some ⟨g, 0, none⟩) n cap) n (encE el f n)) {p : Nat} (hp : p < n) : w.there g (p * 12) 12 := fun j hj => by
  have hl := encE_length el f n
  refine ⟨?_, h.frozenAt _⟩
  rw [h.cellAt _ (by omega), List.getElem?_eq_getElem (by omega)]
  rfl
theorem row_store (h : w.ownsRow base 30 12 (.slice (some ⟨g, 0, none⟩) n cap) n (encE el f n)) {p : Nat} (hp : p < n) (x : Nat) : (w.setCells g (p * 12) (encPtr (el x))).ownsRow base 30 12 (.slice (some ⟨g, 0, none⟩) n cap) n (encE el (upd f p x) n) := by
  rw [← encE_upd el f n p x hp]
  exact owns_setL (w := w) _ _ h
end
theorem upd_sw2 (f : Nat → Nat) (i j p : Nat) : upd (upd f i (f j)) j (f i) p = sw2 f i j p ∨ i = j := by
  by_cases e : i = j
  · exact .inr e
  · left
    unfold upd sw2
    by_cases e1 : p = j
    · subst e1
      rw [if_pos rfl, if_neg (fun h => e h.symm), if_pos rfl]
    · by_cases e2 : p = i
      · rw [if_neg e1, if_pos e2, if_pos e2]
      · rw [if_neg e1, if_neg e2, if_neg e2, if_neg e1]
end Go.Proofs.Ytbkknpodipapoaa
