/-
  No cell of these rows narrows 'for every input' (looked for: loops, veiled, ifaces, maps, wideKeys, modest, calm, conditions, laid).
  DERIVED. THE GIVEN ROWS OF THIS SEAT. 5 by the template 'for every input the law returns true; each argument reads behind the call as it read before'; 0 by the template 'total and deterministic' (their statements: YtbkknpodipapoaaTotals.lean).
  GIVEN WITH THE SEED: the statements are not yours to turn. If you find one false, say at which input.
  Laid BY PROGRAM, IN A SANDBOX (cutbox-rows.mjs): the forced cells as the released guide's own fill.sh prints them over the translation 3cd1ba1dcf490863… (all of the seat's roots in one cut). By AI agents, Wed Nov 11 2026. No macro, syntax, notation, axiom, sorry.
-/
import Derived.Test.YtbkknpodipapoaaChecked
import GoSem.Claim
import GoSem.ClaimJoined
import GoSem.ClaimMapViews
import Derived.JoinedTies
import Derived.KernelRfl
namespace Go.Proofs.Ytbkknpodipapoaa
/- THE CELL 'sum', in the pinned program and in every row, IS THE sha256 OF THE DUMP (.gsa) THAT YtbkknpodipapoaaProg.lean LOADS. Nothing in Lean hashes anything: it is a label: what it is worth is what the hold of that sum in a sandbox is worth. -/
noncomputable def Try.pinned : Pinned := { name := "ytbkknpodipapoaa", sum := "3cd1ba1dcf490863984c73927bb016e79ef624ccb0aac8bb8a94d15d928ed0d3", checked := Try.checked }
namespace Rows
def none {H : Type} : Left H := { results := [], args := [] }

/-- 'polderlaw22.VisitOrder': WHATEVER THE INPUT: true; the input reads as it did. -/
def visitOrderSpec : ChangeSpec := { name := "visitOrder", fn := fun _ => fun
  | [d1, d2] => { results := [.lit (.bool true)], args := [d1, d2] }
  | _ => none }
def visitOrderRow : OpenClaim := { program := "ytbkknpodipapoaa", sum := "3cd1ba1dcf490863984c73927bb016e79ef624ccb0aac8bb8a94d15d928ed0d3", func := "polder/polderlaw22.VisitOrder", spec := "visitOrder", unfollowed := true, recurses := true, plainKeys := false, apart := false }
def VisitOrderSaid : Prop := visitOrderRow.holds Try.pinned (OpenSpec.ofChange visitOrderSpec)

/-- ITS FALSE NEIGHBOUR: 'it returns false'. Refute it at one input. -/
def visitOrderWrong : ChangeSpec := { name := "visitOrder", fn := fun _ => fun
  | [d1, d2] => { results := [.lit (.bool false)], args := [d1, d2] }
  | _ => none }
def VisitOrderWrongFalsely : Prop := visitOrderRow.holds Try.pinned (OpenSpec.ofChange visitOrderWrong)

/-- 'polderlaw22.VisitDead': WHATEVER THE INPUT: true; the input reads as it did. -/
def visitDeadSpec : ChangeSpec := { name := "visitDead", fn := fun _ => fun
  | [d1, d2, d3, d4] => { results := [.lit (.bool true)], args := [d1, d2, d3, d4] }
  | _ => none }
def visitDeadRow : OpenClaim := { program := "ytbkknpodipapoaa", sum := "3cd1ba1dcf490863984c73927bb016e79ef624ccb0aac8bb8a94d15d928ed0d3", func := "polder/polderlaw22.VisitDead", spec := "visitDead", unfollowed := true, recurses := true, plainKeys := false, apart := false }
def VisitDeadSaid : Prop := visitDeadRow.holds Try.pinned (OpenSpec.ofChange visitDeadSpec)

/-- ITS FALSE NEIGHBOUR: 'it returns false'. Refute it at one input. -/
def visitDeadWrong : ChangeSpec := { name := "visitDead", fn := fun _ => fun
  | [d1, d2, d3, d4] => { results := [.lit (.bool false)], args := [d1, d2, d3, d4] }
  | _ => none }
def VisitDeadWrongFalsely : Prop := visitDeadRow.holds Try.pinned (OpenSpec.ofChange visitDeadWrong)

/-- 'polderlaw22.VisitWithout': WHATEVER THE INPUT: true; the input reads as it did. -/
def visitWithoutSpec : ChangeSpec := { name := "visitWithout", fn := fun _ => fun
  | [d1, d2] => { results := [.lit (.bool true)], args := [d1, d2] }
  | _ => none }
def visitWithoutRow : OpenClaim := { program := "ytbkknpodipapoaa", sum := "3cd1ba1dcf490863984c73927bb016e79ef624ccb0aac8bb8a94d15d928ed0d3", func := "polder/polderlaw22.VisitWithout", spec := "visitWithout", unfollowed := true, recurses := true, plainKeys := false, apart := false }
def VisitWithoutSaid : Prop := visitWithoutRow.holds Try.pinned (OpenSpec.ofChange visitWithoutSpec)

/-- ITS FALSE NEIGHBOUR: 'it returns false'. Refute it at one input. -/
def visitWithoutWrong : ChangeSpec := { name := "visitWithout", fn := fun _ => fun
  | [d1, d2] => { results := [.lit (.bool false)], args := [d1, d2] }
  | _ => none }
def VisitWithoutWrongFalsely : Prop := visitWithoutRow.holds Try.pinned (OpenSpec.ofChange visitWithoutWrong)

/-- 'polderlaw22.VisitMeets': WHATEVER THE INPUT: true; the input reads as it did. -/
def visitMeetsSpec : ChangeSpec := { name := "visitMeets", fn := fun _ => fun
  | [d1, d2] => { results := [.lit (.bool true)], args := [d1, d2] }
  | _ => none }
def visitMeetsRow : OpenClaim := { program := "ytbkknpodipapoaa", sum := "3cd1ba1dcf490863984c73927bb016e79ef624ccb0aac8bb8a94d15d928ed0d3", func := "polder/polderlaw22.VisitMeets", spec := "visitMeets", unfollowed := true, recurses := true, plainKeys := false, apart := false }
def VisitMeetsSaid : Prop := visitMeetsRow.holds Try.pinned (OpenSpec.ofChange visitMeetsSpec)

/-- ITS FALSE NEIGHBOUR: 'it returns false'. Refute it at one input. -/
def visitMeetsWrong : ChangeSpec := { name := "visitMeets", fn := fun _ => fun
  | [d1, d2] => { results := [.lit (.bool false)], args := [d1, d2] }
  | _ => none }
def VisitMeetsWrongFalsely : Prop := visitMeetsRow.holds Try.pinned (OpenSpec.ofChange visitMeetsWrong)

/-- 'polderlaw22.VisitPlays': WHATEVER THE INPUT: true; the input reads as it did. -/
def visitPlaysSpec : ChangeSpec := { name := "visitPlays", fn := fun _ => fun
  | [d1, d2, d3, d4, d5, d6] => { results := [.lit (.bool true)], args := [d1, d2, d3, d4, d5, d6] }
  | _ => none }
def visitPlaysRow : OpenClaim := { program := "ytbkknpodipapoaa", sum := "3cd1ba1dcf490863984c73927bb016e79ef624ccb0aac8bb8a94d15d928ed0d3", func := "polder/polderlaw22.VisitPlays", spec := "visitPlays", unfollowed := true, recurses := true, plainKeys := false, apart := false }
def VisitPlaysSaid : Prop := visitPlaysRow.holds Try.pinned (OpenSpec.ofChange visitPlaysSpec)

/-- ITS FALSE NEIGHBOUR: 'it returns false'. Refute it at one input. -/
def visitPlaysWrong : ChangeSpec := { name := "visitPlays", fn := fun _ => fun
  | [d1, d2, d3, d4, d5, d6] => { results := [.lit (.bool false)], args := [d1, d2, d3, d4, d5, d6] }
  | _ => none }
def VisitPlaysWrongFalsely : Prop := visitPlaysRow.holds Try.pinned (OpenSpec.ofChange visitPlaysWrong)

/- THE SECOND FORM. 'bulk': how many values and letters a reading holds, each counted each time it is reached (what is shared counts as often as it is met; a slice's spare places count too). A statement '..UptoSaid' is the law's where the arguments, and the package variables that the reading takes, are together of bulk at most 1048576: NARROWER than '..Said'. Prove '..Said' where nothing that the law and all that it calls make is longer than what came in: it says more and counts as full. Else prove '..UptoSaid'. A law counts once. -/
mutual
def uptoBulk {H : Type} : DataW H → Nat
  | .lit (.string bytes) => bytes.length + 1
  | .lit _ => 1
  | .nil => 1
  | .ptr d => uptoBulk d + 1
  | .slice elems spare => uptoBulkAll elems + uptoBulkAll spare + 1
  | .agg parts => uptoBulkAll parts + 1
  | .iface _ d => uptoBulk d + 1
  | .map entries => uptoBulkEntries entries + 1
  | .held _ => 1
def uptoBulkAll {H : Type} : List (DataW H) → Nat
  | [] => 0
  | d :: r => uptoBulk d + uptoBulkAll r
def uptoBulkEntries {H : Type} : List (Lit × DataW H) → Nat
  | [] => 0
  | x :: r => uptoBulkEntry x + uptoBulkEntries r
def uptoBulkEntry {H : Type} : Lit × DataW H → Nat
  | (.string bytes, d) => bytes.length + uptoBulk d + 1
  | (_, d) => uptoBulk d + 1
 end
def uptoSmall : (H : Type) → List (DataW H) → Bool := fun _ ds => decide (uptoBulkAll ds ≤ 1048576)
def OpenSpec.upto (s : _root_.Go.ChangeSpec) : _root_.Go.OpenSpec := { _root_.Go.OpenSpec.ofChange s with cond := some uptoSmall }

/-- 'polderlaw22.VisitOrder', WHERE WHAT IT READS IS OF BULK AT MOST 1048576: true; the input reads as it did. -/
def visitOrderUptoRow : OpenClaim := { program := "ytbkknpodipapoaa", sum := "3cd1ba1dcf490863984c73927bb016e79ef624ccb0aac8bb8a94d15d928ed0d3", func := "polder/polderlaw22.VisitOrder", spec := "visitOrder", unfollowed := true, recurses := true, plainKeys := false, apart := false, narrowed := true }
def VisitOrderUptoSaid : Prop := visitOrderUptoRow.holds Try.pinned (OpenSpec.upto visitOrderSpec)

/-- 'polderlaw22.VisitDead', WHERE WHAT IT READS IS OF BULK AT MOST 1048576: true; the input reads as it did. -/
def visitDeadUptoRow : OpenClaim := { program := "ytbkknpodipapoaa", sum := "3cd1ba1dcf490863984c73927bb016e79ef624ccb0aac8bb8a94d15d928ed0d3", func := "polder/polderlaw22.VisitDead", spec := "visitDead", unfollowed := true, recurses := true, plainKeys := false, apart := false, narrowed := true }
def VisitDeadUptoSaid : Prop := visitDeadUptoRow.holds Try.pinned (OpenSpec.upto visitDeadSpec)

/-- 'polderlaw22.VisitWithout', WHERE WHAT IT READS IS OF BULK AT MOST 1048576: true; the input reads as it did. -/
def visitWithoutUptoRow : OpenClaim := { program := "ytbkknpodipapoaa", sum := "3cd1ba1dcf490863984c73927bb016e79ef624ccb0aac8bb8a94d15d928ed0d3", func := "polder/polderlaw22.VisitWithout", spec := "visitWithout", unfollowed := true, recurses := true, plainKeys := false, apart := false, narrowed := true }
def VisitWithoutUptoSaid : Prop := visitWithoutUptoRow.holds Try.pinned (OpenSpec.upto visitWithoutSpec)

/-- 'polderlaw22.VisitMeets', WHERE WHAT IT READS IS OF BULK AT MOST 1048576: true; the input reads as it did. -/
def visitMeetsUptoRow : OpenClaim := { program := "ytbkknpodipapoaa", sum := "3cd1ba1dcf490863984c73927bb016e79ef624ccb0aac8bb8a94d15d928ed0d3", func := "polder/polderlaw22.VisitMeets", spec := "visitMeets", unfollowed := true, recurses := true, plainKeys := false, apart := false, narrowed := true }
def VisitMeetsUptoSaid : Prop := visitMeetsUptoRow.holds Try.pinned (OpenSpec.upto visitMeetsSpec)

/-- 'polderlaw22.VisitPlays', WHERE WHAT IT READS IS OF BULK AT MOST 1048576: true; the input reads as it did. -/
def visitPlaysUptoRow : OpenClaim := { program := "ytbkknpodipapoaa", sum := "3cd1ba1dcf490863984c73927bb016e79ef624ccb0aac8bb8a94d15d928ed0d3", func := "polder/polderlaw22.VisitPlays", spec := "visitPlays", unfollowed := true, recurses := true, plainKeys := false, apart := false, narrowed := true }
def VisitPlaysUptoSaid : Prop := visitPlaysUptoRow.holds Try.pinned (OpenSpec.upto visitPlaysSpec)

end Rows
end Go.Proofs.Ytbkknpodipapoaa
