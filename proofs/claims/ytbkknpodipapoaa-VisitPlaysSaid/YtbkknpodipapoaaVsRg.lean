/- Ranges and marks as they come in. -/
import Derived.Test.YtbkknpodipapoaaVsMe
import Derived.Lib.SmallJoins
namespace Go.Proofs.Ytbkknpodipapoaa
open Go.RowKit Go.ChangeShapes Go.WideShapes Go.Deep
section
variable {H : Type} {enc : TypeId × Value → H} {W : World} {base : Nat} {spare : Nat → Bool} {held : Bool}
theorem i64_wf {x : Int} (h : (Lit.int .i64 x).wf = true) : I64' x := by simpa [I64', Lit.wf, IntKind.min, IntKind.max, IntKind.signed, IntKind.bits] using h
set_option maxRecDepth 100000 in
theorem open_range {r : Reach} {b0 : Nat} {v : Value} {d : DataW H} {p : List MemPlace} (hv : Value.okWide Try.prog W r b0 42 v) (h : DataW.Trod enc Try.prog W base spare held 42 v d p) :
    ∃ (f t : Int), v = .agg #[.int .i64 f, .int .i64 t] ∧ (I64' f ∧ I64' t) := by
  obtain ⟨v0, v1, y0, y1, k, rfl, rfl, rfl, g0, g1⟩ := Joins.open_agg2 Try.underlying42 (by kernel_rfl) (by kernel_rfl) hv h
  obtain ⟨n0, e0, _, w0⟩ := DataW.trod_int Try.underlying3 g0
  obtain ⟨n1, e1, _, w1⟩ := DataW.trod_int Try.underlying3 g1
  simp at e0 e1
  subst e0
  subst e1
  exact ⟨n0, n1, rfl, i64_wf w0, i64_wf w1⟩
set_option maxRecDepth 100000 in
theorem open_mark {r : Reach} {b0 : Nat} {v : Value} {d : DataW H} {p : List MemPlace} (hv : Value.okWide Try.prog W r b0 34 v) (h : DataW.Trod enc Try.prog W base spare held 34 v d p) :
    ∃ (b g a : Int), v = .agg #[.int .i64 b, .int .i64 g, .int .i64 a] ∧ (I64' b ∧ I64' g ∧ I64' a) := by
  obtain ⟨v0, v1, v2, y0, y1, y2, k, rfl, rfl, rfl, g0, g1, g2⟩ := Joins.open_agg3 Try.underlying34 (by kernel_rfl) (by kernel_rfl) hv h
  obtain ⟨n0, e0, _, w0⟩ := DataW.trod_int Try.underlying3 g0
  obtain ⟨n1, e1, _, w1⟩ := DataW.trod_int Try.underlying3 g1
  obtain ⟨n2, e2, _, w2⟩ := DataW.trod_int Try.underlying3 g2
  simp at e0 e1 e2
  subst e0
  subst e1
  subst e2
  exact ⟨n0, n1, n2, rfl, i64_wf w0, i64_wf w1, i64_wf w2⟩
end
theorem visitmeets_at (ao : Option Addr) (n cap : Nat) (l : List PtrT) (f t : Int) (w : World) (h : QSl w ao n cap l) (_h2 : I64' f ∧ I64' t) :
    Calls Try.prog 6 #[.slice ao n cap, .agg #[.int .i64 f, .int .i64 t]] w fun e w' => e = .returned (.bool true) ∧ Below w.heap.size w w' := visitmeets_any ao n cap l f t w h
end Go.Proofs.Ytbkknpodipapoaa
