/- An operation of a plain walk inside the wide fence. -/
import Derived.Test.YtbkknpodipapoaaVsH
import Derived.RangeFuncNested
import Derived.RangeFuncBound
import Derived.RangeFuncCalls
import Derived.RangeFuncLeaves
import Derived.OwnWalkIn
import Derived.TacticsInMore
import Derived.LoopNIn
import Derived.LoopIn
namespace Go.Proofs.Ytbkknpodipapoaa
open Go.RowKit
set_option linter.unusedSimpArgs false

theorem rowsIn_wide {n : Nat} {P : Program} {row : String} {args : Array Value} {w : World} {R : Value → World → Prop} (h : Rows P row args w R) : RowsIn Fence.wide n P row args w R :=
  fun c cs _ => let ⟨v, w', hr, hs⟩ := h c cs; ⟨v, w', hr, stepsIn_wide.2 hs⟩
/-- what a plain walk shows of an operation holds inside the wide fence -/
theorem wpIn_of_wp {n : Nat} {P : Program} {o : Oper} {a : Act} {w : World} {K : Act → World → Prop} {Q : Exit → Act → World → Prop} (h : o.wp P a w K Q) : o.wpIn Fence.wide n P a w K Q := by
  refine ⟨fun _ _ => trivial, ?_⟩
  unfold Oper.wp at h
  have e : o.semAt Fence.wide.round a.eval = execOp a.eval o := Oper.semAt_none _ _
  rw [e]
  generalize (execOp a.eval o).run P w = r at h ⊢
  cases r with
  | ok x w' =>
    cases x with
    | value v => exact h
    | skip => exact h
    | defer d => exact h
    | enter f args => exact ⟨fun h2 => Bool.noConfusion h2, callsIn_wide.2 h⟩
    | row row args => exact ⟨fun h2 => Bool.noConfusion h2, rowsIn_wide h⟩
    | _ => exact h.elim
  | halt x w' =>
    cases x with
    | panic v => exact h
    | _ => exact h.elim
/-- what a round that goes on keeps: all rows but the loop's own -/
structure KpO (own : Nat → Prop) (W W' : World) : Prop where
  size : W.heap.size ≤ W'.heap.size
  same : ∀ k cs e fr, W.heap[k]? = some (.cells cs e fr) → ¬ own k → W'.heap[k]? = some (.cells cs e fr)
theorem KpO.trans {own : Nat → Prop} {A B C : World} (h : KpO own A B) (k : KpO own B C) : KpO own A C := ⟨Nat.le_trans h.size k.size, fun i cs e fr hi ho => k.same i cs e fr (h.same i cs e fr hi ho) ho⟩
theorem KpO.putObj {own : Nat → Prop} (W : World) (l : Nat) (o o' : Obj) (h : W.heap[l]? = some o) (ho : o.isCells = false) : KpO own W (W.putObj l o') := by
  refine ⟨(grownBy_putObj' W l o').size, fun k cs e fr hk _ => ?_⟩
  rw [(grownBy_putObj' W l o').block k (Array.getElem?_eq_some_iff.1 hk).1 (fun e2 => ?_)]
  · exact hk
  · have := Option.some.inj e2
    subst this
    rw [h] at hk
    have := Option.some.inj hk
    subst this
    cases ho
theorem KpO.of_below {own : Nat → Prop} {W W' : World} (h : Below W.heap.size W W') : KpO own W W' := ⟨h.size, fun k cs e fr hk _ => by rw [h.block k (Array.getElem?_eq_some_iff.1 hk).1]; exact hk⟩
theorem Blk.kp {own : Nat → Prop} {W W' : World} {g e : Nat} {cs : List Value} (h : Blk W g e cs) (k : KpO own W W') (ho : ¬ own g) : Blk W' g e cs := k.same g _ _ _ h ho
theorem row_kp {own : Nat → Prop} {W W' : World} {base e size n : Nat} {v : Value} {xs : List Value} (h : W.ownsRow base e size v n xs) (k : KpO own W W') (ho : ∀ g, v.ownBlock = some g → ¬ own g) : W'.ownsRow base e size v n xs := by
  refine ⟨h.1, ?_⟩
  rcases h.2 with h2 | ⟨g, cap, cur, rfl, h3, h4, h5⟩
  · exact .inl h2
  · exact .inr ⟨g, cap, cur, rfl, h3, k.same g _ _ _ h4 (ho g rfl), h5⟩
end Go.Proofs.Ytbkknpodipapoaa
