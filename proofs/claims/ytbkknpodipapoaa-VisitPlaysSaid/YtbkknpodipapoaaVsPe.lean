/- VisitPlays at its arguments. -/
import Derived.Test.YtbkknpodipapoaaVsPd
namespace Go.Proofs.Ytbkknpodipapoaa
open Go.RowKit
theorem visitplays_at (ao : Option Addr) (n cap : Nat) (l : List PtrT) (bo : Option Addr) (m cap' : Nat) (lo : List PtrT) (mb mg ma f t prev st : Int) (w : World) (h : QSl w ao n cap l) (h' : QSl w bo m cap' lo) (_h2 : I64' mb ∧ I64' mg ∧ I64' ma) (_h3 : I64' f ∧ I64' t) (_h4 : -9223372036854775808 ≤ prev ∧ prev ≤ 9223372036854775807) (hst : 0 ≤ st ∧ st ≤ 255) :
    Calls Try.prog 7 #[.slice ao n cap, .slice bo m cap', .agg #[.int .i64 mb, .int .i64 mg, .int .i64 ma], .agg #[.int .i64 f, .int .i64 t], .int .i64 prev, .int .u8 st] w fun e w' => e = .returned (.bool true) ∧ Below w.heap.size w w' :=
  visitplays_any ao bo n cap m cap' l lo mb mg ma f t prev st w h.1 h'.1 hst
end Go.Proofs.Ytbkknpodipapoaa
