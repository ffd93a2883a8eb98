/- Whole blocks, told by their lists of cells, behind stores. No condition: lemmas over any program. -/
import Derived.Test.YtmnhdpojonlfhaaCore
namespace Go.Proofs.Ytmnhdpojonlfhaa
open Go.RowKit

/-- Block g holds just these cells, none of them frozen. -/
def Blk (w : World) (g e : Nat) (cs : List Value) : Prop := w.heap[g]? = some (.cells cs.toArray e (0, 0))
theorem Blk.lt {w : World} {g e : Nat} {cs : List Value} (h : Blk w g e cs) : g < w.heap.size := (Array.getElem?_eq_some_iff.1 h).1
theorem Blk.cell {w : World} {g e : Nat} {cs : List Value} (h : Blk w g e cs) (j : Nat) : w.cell? ⟨g, j, none⟩ = cs[j]? := by
  rw [cell_of_row w g j cs.toArray e (0, 0) h]; simp
theorem Blk.frozen {w : World} {g e : Nat} {cs : List Value} (h : Blk w g e cs) (j : Nat) : w.frozen? ⟨g, j, none⟩ = false := frozen_of_row w g j cs.toArray e h
theorem Blk.setCell {w : World} {g e : Nat} {cs : List Value} (h : Blk w g e cs) (j : Nat) (v : Value) : Blk (w.setCell ⟨g, j, none⟩ v) g e (cs.set j v) := by
  have := heap_setCell_same w g j cs.toArray e v h
  unfold Blk
  rw [this]
  simp
theorem Blk.other {w : World} {g e : Nat} {cs : List Value} (h : Blk w g e cs) {a : Addr} (hne : g ≠ a.block) (v : Value) : Blk (w.setCell a v) g e cs := by
  unfold Blk
  rw [heap_setCell_other w a g v hne]
  exact h
theorem Blk.below {w w' : World} {g e : Nat} {cs : List Value} (h : Blk w g e cs) (hb : Below w.heap.size w w') : Blk w' g e cs := by
  unfold Blk
  rw [hb.block g h.lt]
  exact h
theorem Blk.alloc {w : World} {g e : Nat} {cs : List Value} (h : Blk w g e cs) (o : Obj) : Blk (w.alloc o) g e cs := h.below ((Below.refl _ _).alloc (Nat.le_refl _) _)
theorem Blk.new (w : World) (e : Nat) (cs : List Value) : Blk (w.alloc (.cells cs.toArray e)) w.heap.size e cs := heap_alloc_new w _
theorem Blk.drew {w : World} {g e : Nat} {cs : List Value} (h : Blk w g e cs) : Blk w.drew g e cs := h
theorem Blk.setCells {g e : Nat} (vs : List Value) : ∀ {w : World} {cs : List Value} (o : Nat), Blk w g e cs → o + vs.length ≤ cs.length → Blk (w.setCells g o vs) g e (cs.take o ++ vs ++ cs.drop (o + vs.length)) := by
  induction vs with
  | nil =>
    intro w cs o h _
    simpa [World.setCells] using h
  | cons v r ih =>
    intro w cs o h ho
    simp only [List.length_cons] at ho
    have h2 := ih (o + 1) (h.setCell o v) (by simp; omega)
    have e : cs.take o ++ v :: r ++ cs.drop (o + (r.length + 1)) = (cs.set o v).take (o + 1) ++ r ++ (cs.set o v).drop (o + 1 + r.length) := by
      have h1 : (cs.set o v).take (o + 1) = cs.take o ++ [v] := by
        rw [List.take_succ_eq_append_getElem (by simp; omega), List.take_set_of_le (Nat.le_refl _)]
        simp
      rw [h1, List.drop_set_of_lt (by omega)]
      simp only [List.append_assoc, List.cons_append, List.nil_append]
      congr 4
      omega
    rw [List.length_cons, e]
    exact h2
theorem setCells_grown (g : Nat) (vs : List Value) : ∀ (w : World) (o : Nat), w.grownBy (w.setCells g o vs) (some g) := by
  induction vs with
  | nil => exact fun w o => World.grownBy.refl w _
  | cons v r ih =>
    intro w o
    have h2 := ih (w.setCell ⟨g, o, none⟩ v) (o + 1)
    refine ⟨h2.os, h2.tape, h2.output, Nat.le_trans (by simp [World.setCell]) h2.size, fun k hk hne => ?_⟩
    show ((w.setCell ⟨g, o, none⟩ v).setCells g (o + 1) r).heap[k]? = _
    rw [h2.block k (by simpa [World.setCell] using hk) hne, heap_setCell_other w ⟨g, o, none⟩ k v (fun e => hne (by simp [e]))]
theorem grown_trans {a b c : World} {r : Option Nat} (h : a.grownBy b r) (k : b.grownBy c r) : a.grownBy c r :=
  ⟨k.os.trans h.os, k.tape.trans h.tape, k.output.trans h.output, Nat.le_trans h.size k.size, fun i hi hn => (k.block i (Nat.lt_of_lt_of_le hi h.size) hn).trans (h.block i hi hn)⟩
theorem grown_drew (w : World) (r : Option Nat) : w.grownBy w.drew r := ⟨rfl, rfl, rfl, Nat.le_refl _, fun _ _ _ => rfl⟩

/-- What is owned at the head of a block, and the block. -/
theorem owns_blk {w : World} {base e size n cap g : Nat} {xs : List Value} (h : w.ownsRow base e size (.slice (some ⟨g, 0, none⟩) n cap) n xs) :
    ∃ cs, Blk w g e cs ∧ base ≤ g ∧ n ≤ cap ∧ cap ≤ maxLen ∧ cs.length = cap * size ∧ cs.take (n * size) = xs := by
  rcases h.2 with ⟨h', _⟩ | ⟨g', cap', cur, h', hb, hg, hnc, hcm, hcs, ht⟩
  · simp at h'
  · simp only [Value.slice.injEq, Option.some.injEq, Addr.mk.injEq, and_true, true_and] at h'
    obtain ⟨rfl, rfl⟩ := h'
    exact ⟨cur.toList, by simpa [Blk] using hg, hb, hnc, hcm, by simpa using hcs, ht⟩
theorem blk_owns {w : World} {base e size n cap g : Nat} {cs : List Value} (h : Blk w g e cs) (hb : base ≤ g) (hn : n ≤ cap) (hm : cap ≤ maxLen) (hc : cs.length = cap * size) :
    w.ownsRow base e size (.slice (some ⟨g, 0, none⟩) n cap) n (cs.take (n * size)) := by
  refine ⟨?_, .inr ⟨g, cap, cs.toArray, rfl, hb, h, hn, hm, by simpa using hc, by simp⟩⟩
  rw [List.length_take, hc]
  exact Nat.min_eq_left (Nat.mul_le_mul_right _ hn)
/-- The head of a row is known where it owns an element, or room. -/
theorem owns_head {w : World} {base e size n cap : Nat} {ao : Option Addr} {xs : List Value} (h : w.ownsRow base e size (.slice ao n cap) n xs) (hn : 0 < n) : ∃ g, ao = some ⟨g, 0, none⟩ ∧ base ≤ g := by
  rcases h.2 with ⟨h', h0⟩ | ⟨g', cap', cur, h', hb, _⟩
  · omega
  · simp only [Value.slice.injEq] at h'
    exact ⟨g', h'.1, hb⟩
theorem owns_headv {w : World} {base e size n : Nat} {v : Value} {xs : List Value} (h : w.ownsRow base e size v n xs) (hn : 0 < n) : ∃ g cap, v = .slice (some ⟨g, 0, none⟩) n cap ∧ base ≤ g := by
  rcases h.2 with ⟨_, h0⟩ | ⟨g', cap', cur, h', hb, _⟩
  · omega
  · exact ⟨g', cap', h', hb⟩
theorem owns_cellS {w : World} {base e n cap g j : Nat} {ss : List ByteArray} (h : w.ownsRow base e 1 (.slice (some ⟨g, 0, none⟩) n cap) n (encS ss)) (hj : j < n) : w.cell? ⟨g, j, none⟩ = some (.string (ss.getD j ByteArray.empty)) := by
  have hl : ss.length = n := by have := h.1; simpa [encS] using this
  rw [h.cellAt j (by omega), encS_get _ _ (by omega)]
end Go.Proofs.Ytmnhdpojonlfhaa
