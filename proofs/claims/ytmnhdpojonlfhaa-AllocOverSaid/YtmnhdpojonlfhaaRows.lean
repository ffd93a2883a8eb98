/-
  No cell of these rows narrows 'for every input' (looked for: loops, veiled, ifaces, maps, wideKeys, modest, calm, conditions, laid).
  DERIVED. THE GIVEN ROWS OF THIS SEAT. 18 by the template 'for every input the law returns true; each argument reads behind the call as it read before'; 0 by the template 'total and deterministic' (their statements: YtmnhdpojonlfhaaTotals.lean).
  GIVEN WITH THE SEED: the statements are not yours to turn. If you find one false, say at which input.
  Laid BY PROGRAM, IN A SANDBOX (cutbox-rows.mjs): the forced cells as the released guide's own fill.sh prints them over the translation ad080983fe146051… (all of the seat's roots in one cut). By AI agents, Wed Nov 11 2026. No macro, syntax, notation, axiom, sorry.
-/
import Derived.Test.YtmnhdpojonlfhaaChecked
import GoSem.Claim
import GoSem.ClaimJoined
import GoSem.ClaimMapViews
import Derived.JoinedTies
import Derived.KernelRfl
namespace Go.Proofs.Ytmnhdpojonlfhaa
/- THE CELL 'sum', in the pinned program and in every row, IS THE sha256 OF THE DUMP (.gsa) THAT YtmnhdpojonlfhaaProg.lean LOADS. Nothing in Lean hashes anything: it is a label: what it is worth is what the hold of that sum in a sandbox is worth. -/
noncomputable def Try.pinned : Pinned := { name := "ytmnhdpojonlfhaa", sum := "ad080983fe146051622fca91f2b827c0b056380fe27077f94437671276763687", checked := Try.checked }
namespace Rows
def none {H : Type} : Left H := { results := [], args := [] }

/-- 'polderlaw03.ParSums': WHATEVER THE INPUT: true; the input reads as it did. -/
def parSumsSpec : ChangeSpec := { name := "parSums", fn := fun _ => fun
  | [d1, d2] => { results := [.lit (.bool true)], args := [d1, d2] }
  | _ => none }
def parSumsRow : OpenClaim := { program := "ytmnhdpojonlfhaa", sum := "ad080983fe146051622fca91f2b827c0b056380fe27077f94437671276763687", func := "polder/polderlaw03.ParSums", spec := "parSums", unfollowed := true, recurses := true, plainKeys := false, apart := false }
def ParSumsSaid : Prop := parSumsRow.holds Try.pinned (OpenSpec.ofChange parSumsSpec)

/-- ITS FALSE NEIGHBOUR: 'it returns false'. Refute it at one input. -/
def parSumsWrong : ChangeSpec := { name := "parSums", fn := fun _ => fun
  | [d1, d2] => { results := [.lit (.bool false)], args := [d1, d2] }
  | _ => none }
def ParSumsWrongFalsely : Prop := parSumsRow.holds Try.pinned (OpenSpec.ofChange parSumsWrong)

/-- 'polderlaw03.ParAgain': WHATEVER THE INPUT: true; the input reads as it did. -/
def parAgainSpec : ChangeSpec := { name := "parAgain", fn := fun _ => fun
  | [d1, d2, d3] => { results := [.lit (.bool true)], args := [d1, d2, d3] }
  | _ => none }
def parAgainRow : OpenClaim := { program := "ytmnhdpojonlfhaa", sum := "ad080983fe146051622fca91f2b827c0b056380fe27077f94437671276763687", func := "polder/polderlaw03.ParAgain", spec := "parAgain", unfollowed := true, recurses := true, plainKeys := false, apart := false }
def ParAgainSaid : Prop := parAgainRow.holds Try.pinned (OpenSpec.ofChange parAgainSpec)

/-- ITS FALSE NEIGHBOUR: 'it returns false'. Refute it at one input. -/
def parAgainWrong : ChangeSpec := { name := "parAgain", fn := fun _ => fun
  | [d1, d2, d3] => { results := [.lit (.bool false)], args := [d1, d2, d3] }
  | _ => none }
def ParAgainWrongFalsely : Prop := parAgainRow.holds Try.pinned (OpenSpec.ofChange parAgainWrong)

/-- 'polderlaw11.SpaceOrder': WHATEVER THE INPUT: true; the input reads as it did. -/
def spaceOrderSpec : ChangeSpec := { name := "spaceOrder", fn := fun _ => fun
  | [d1, d2] => { results := [.lit (.bool true)], args := [d1, d2] }
  | _ => none }
def spaceOrderRow : OpenClaim := { program := "ytmnhdpojonlfhaa", sum := "ad080983fe146051622fca91f2b827c0b056380fe27077f94437671276763687", func := "polder/polderlaw11.SpaceOrder", spec := "spaceOrder", unfollowed := true, recurses := true, plainKeys := false, apart := false }
def SpaceOrderSaid : Prop := spaceOrderRow.holds Try.pinned (OpenSpec.ofChange spaceOrderSpec)

/-- ITS FALSE NEIGHBOUR: 'it returns false'. Refute it at one input. -/
def spaceOrderWrong : ChangeSpec := { name := "spaceOrder", fn := fun _ => fun
  | [d1, d2] => { results := [.lit (.bool false)], args := [d1, d2] }
  | _ => none }
def SpaceOrderWrongFalsely : Prop := spaceOrderRow.holds Try.pinned (OpenSpec.ofChange spaceOrderWrong)

/-- 'polderlaw11.SpacePlays': WHATEVER THE INPUT: true; the input reads as it did. -/
def spacePlaysSpec : ChangeSpec := { name := "spacePlays", fn := fun _ => fun
  | [d1, d2] => { results := [.lit (.bool true)], args := [d1, d2] }
  | _ => none }
def spacePlaysRow : OpenClaim := { program := "ytmnhdpojonlfhaa", sum := "ad080983fe146051622fca91f2b827c0b056380fe27077f94437671276763687", func := "polder/polderlaw11.SpacePlays", spec := "spacePlays", unfollowed := true, recurses := true, plainKeys := false, apart := false }
def SpacePlaysSaid : Prop := spacePlaysRow.holds Try.pinned (OpenSpec.ofChange spacePlaysSpec)

/-- ITS FALSE NEIGHBOUR: 'it returns false'. Refute it at one input. -/
def spacePlaysWrong : ChangeSpec := { name := "spacePlays", fn := fun _ => fun
  | [d1, d2] => { results := [.lit (.bool false)], args := [d1, d2] }
  | _ => none }
def SpacePlaysWrongFalsely : Prop := spacePlaysRow.holds Try.pinned (OpenSpec.ofChange spacePlaysWrong)

/-- 'polderlaw11.SpaceBack': WHATEVER THE INPUT: true; the input reads as it did. -/
def spaceBackSpec : ChangeSpec := { name := "spaceBack", fn := fun _ => fun
  | [d1, d2] => { results := [.lit (.bool true)], args := [d1, d2] }
  | _ => none }
def spaceBackRow : OpenClaim := { program := "ytmnhdpojonlfhaa", sum := "ad080983fe146051622fca91f2b827c0b056380fe27077f94437671276763687", func := "polder/polderlaw11.SpaceBack", spec := "spaceBack", unfollowed := true, recurses := true, plainKeys := false, apart := false }
def SpaceBackSaid : Prop := spaceBackRow.holds Try.pinned (OpenSpec.ofChange spaceBackSpec)

/-- ITS FALSE NEIGHBOUR: 'it returns false'. Refute it at one input. -/
def spaceBackWrong : ChangeSpec := { name := "spaceBack", fn := fun _ => fun
  | [d1, d2] => { results := [.lit (.bool false)], args := [d1, d2] }
  | _ => none }
def SpaceBackWrongFalsely : Prop := spaceBackRow.holds Try.pinned (OpenSpec.ofChange spaceBackWrong)

/-- 'polderlaw11.SpaceRuns': WHATEVER THE INPUT: true; the input reads as it did. -/
def spaceRunsSpec : ChangeSpec := { name := "spaceRuns", fn := fun _ => fun
  | [d1, d2] => { results := [.lit (.bool true)], args := [d1, d2] }
  | _ => none }
def spaceRunsRow : OpenClaim := { program := "ytmnhdpojonlfhaa", sum := "ad080983fe146051622fca91f2b827c0b056380fe27077f94437671276763687", func := "polder/polderlaw11.SpaceRuns", spec := "spaceRuns", unfollowed := true, recurses := true, plainKeys := false, apart := false }
def SpaceRunsSaid : Prop := spaceRunsRow.holds Try.pinned (OpenSpec.ofChange spaceRunsSpec)

/-- ITS FALSE NEIGHBOUR: 'it returns false'. Refute it at one input. -/
def spaceRunsWrong : ChangeSpec := { name := "spaceRuns", fn := fun _ => fun
  | [d1, d2] => { results := [.lit (.bool false)], args := [d1, d2] }
  | _ => none }
def SpaceRunsWrongFalsely : Prop := spaceRunsRow.holds Try.pinned (OpenSpec.ofChange spaceRunsWrong)

/-- 'polderlaw11.SpaceFinds': WHATEVER THE INPUT: true; the input reads as it did. -/
def spaceFindsSpec : ChangeSpec := { name := "spaceFinds", fn := fun _ => fun
  | [d1, d2, d3, d4] => { results := [.lit (.bool true)], args := [d1, d2, d3, d4] }
  | _ => none }
def spaceFindsRow : OpenClaim := { program := "ytmnhdpojonlfhaa", sum := "ad080983fe146051622fca91f2b827c0b056380fe27077f94437671276763687", func := "polder/polderlaw11.SpaceFinds", spec := "spaceFinds", unfollowed := true, recurses := true, plainKeys := false, apart := false }
def SpaceFindsSaid : Prop := spaceFindsRow.holds Try.pinned (OpenSpec.ofChange spaceFindsSpec)

/-- ITS FALSE NEIGHBOUR: 'it returns false'. Refute it at one input. -/
def spaceFindsWrong : ChangeSpec := { name := "spaceFinds", fn := fun _ => fun
  | [d1, d2, d3, d4] => { results := [.lit (.bool false)], args := [d1, d2, d3, d4] }
  | _ => none }
def SpaceFindsWrongFalsely : Prop := spaceFindsRow.holds Try.pinned (OpenSpec.ofChange spaceFindsWrong)

/-- 'polderlaw11.SpaceCopies': WHATEVER THE INPUT: true; the input reads as it did. -/
def spaceCopiesSpec : ChangeSpec := { name := "spaceCopies", fn := fun _ => fun
  | [d1, d2] => { results := [.lit (.bool true)], args := [d1, d2] }
  | _ => none }
def spaceCopiesRow : OpenClaim := { program := "ytmnhdpojonlfhaa", sum := "ad080983fe146051622fca91f2b827c0b056380fe27077f94437671276763687", func := "polder/polderlaw11.SpaceCopies", spec := "spaceCopies", unfollowed := true, recurses := true, plainKeys := false, apart := false }
def SpaceCopiesSaid : Prop := spaceCopiesRow.holds Try.pinned (OpenSpec.ofChange spaceCopiesSpec)

/-- ITS FALSE NEIGHBOUR: 'it returns false'. Refute it at one input. -/
def spaceCopiesWrong : ChangeSpec := { name := "spaceCopies", fn := fun _ => fun
  | [d1, d2] => { results := [.lit (.bool false)], args := [d1, d2] }
  | _ => none }
def SpaceCopiesWrongFalsely : Prop := spaceCopiesRow.holds Try.pinned (OpenSpec.ofChange spaceCopiesWrong)

/-- 'polderlaw22.VisitOrder': WHATEVER THE INPUT: true; the input reads as it did. -/
def visitOrderSpec : ChangeSpec := { name := "visitOrder", fn := fun _ => fun
  | [d1, d2] => { results := [.lit (.bool true)], args := [d1, d2] }
  | _ => none }
def visitOrderRow : OpenClaim := { program := "ytmnhdpojonlfhaa", sum := "ad080983fe146051622fca91f2b827c0b056380fe27077f94437671276763687", func := "polder/polderlaw22.VisitOrder", spec := "visitOrder", unfollowed := true, recurses := true, plainKeys := false, apart := false }
def VisitOrderSaid : Prop := visitOrderRow.holds Try.pinned (OpenSpec.ofChange visitOrderSpec)

/-- ITS FALSE NEIGHBOUR: 'it returns false'. Refute it at one input. -/
def visitOrderWrong : ChangeSpec := { name := "visitOrder", fn := fun _ => fun
  | [d1, d2] => { results := [.lit (.bool false)], args := [d1, d2] }
  | _ => none }
def VisitOrderWrongFalsely : Prop := visitOrderRow.holds Try.pinned (OpenSpec.ofChange visitOrderWrong)

/-- 'polderlaw22.VisitDead': WHATEVER THE INPUT: true; the input reads as it did. -/
def visitDeadSpec : ChangeSpec := { name := "visitDead", fn := fun _ => fun
  | [d1, d2, d3, d4] => { results := [.lit (.bool true)], args := [d1, d2, d3, d4] }
  | _ => none }
def visitDeadRow : OpenClaim := { program := "ytmnhdpojonlfhaa", sum := "ad080983fe146051622fca91f2b827c0b056380fe27077f94437671276763687", func := "polder/polderlaw22.VisitDead", spec := "visitDead", unfollowed := true, recurses := true, plainKeys := false, apart := false }
def VisitDeadSaid : Prop := visitDeadRow.holds Try.pinned (OpenSpec.ofChange visitDeadSpec)

/-- ITS FALSE NEIGHBOUR: 'it returns false'. Refute it at one input. -/
def visitDeadWrong : ChangeSpec := { name := "visitDead", fn := fun _ => fun
  | [d1, d2, d3, d4] => { results := [.lit (.bool false)], args := [d1, d2, d3, d4] }
  | _ => none }
def VisitDeadWrongFalsely : Prop := visitDeadRow.holds Try.pinned (OpenSpec.ofChange visitDeadWrong)

/-- 'polderlaw22.VisitWithout': WHATEVER THE INPUT: true; the input reads as it did. -/
def visitWithoutSpec : ChangeSpec := { name := "visitWithout", fn := fun _ => fun
  | [d1, d2] => { results := [.lit (.bool true)], args := [d1, d2] }
  | _ => none }
def visitWithoutRow : OpenClaim := { program := "ytmnhdpojonlfhaa", sum := "ad080983fe146051622fca91f2b827c0b056380fe27077f94437671276763687", func := "polder/polderlaw22.VisitWithout", spec := "visitWithout", unfollowed := true, recurses := true, plainKeys := false, apart := false }
def VisitWithoutSaid : Prop := visitWithoutRow.holds Try.pinned (OpenSpec.ofChange visitWithoutSpec)

/-- ITS FALSE NEIGHBOUR: 'it returns false'. Refute it at one input. -/
def visitWithoutWrong : ChangeSpec := { name := "visitWithout", fn := fun _ => fun
  | [d1, d2] => { results := [.lit (.bool false)], args := [d1, d2] }
  | _ => none }
def VisitWithoutWrongFalsely : Prop := visitWithoutRow.holds Try.pinned (OpenSpec.ofChange visitWithoutWrong)

/-- 'polderlaw22.VisitMeets': WHATEVER THE INPUT: true; the input reads as it did. -/
def visitMeetsSpec : ChangeSpec := { name := "visitMeets", fn := fun _ => fun
  | [d1, d2] => { results := [.lit (.bool true)], args := [d1, d2] }
  | _ => none }
def visitMeetsRow : OpenClaim := { program := "ytmnhdpojonlfhaa", sum := "ad080983fe146051622fca91f2b827c0b056380fe27077f94437671276763687", func := "polder/polderlaw22.VisitMeets", spec := "visitMeets", unfollowed := true, recurses := true, plainKeys := false, apart := false }
def VisitMeetsSaid : Prop := visitMeetsRow.holds Try.pinned (OpenSpec.ofChange visitMeetsSpec)

/-- ITS FALSE NEIGHBOUR: 'it returns false'. Refute it at one input. -/
def visitMeetsWrong : ChangeSpec := { name := "visitMeets", fn := fun _ => fun
  | [d1, d2] => { results := [.lit (.bool false)], args := [d1, d2] }
  | _ => none }
def VisitMeetsWrongFalsely : Prop := visitMeetsRow.holds Try.pinned (OpenSpec.ofChange visitMeetsWrong)

/-- 'polderlaw22.VisitPlays': WHATEVER THE INPUT: true; the input reads as it did. -/
def visitPlaysSpec : ChangeSpec := { name := "visitPlays", fn := fun _ => fun
  | [d1, d2, d3, d4, d5, d6] => { results := [.lit (.bool true)], args := [d1, d2, d3, d4, d5, d6] }
  | _ => none }
def visitPlaysRow : OpenClaim := { program := "ytmnhdpojonlfhaa", sum := "ad080983fe146051622fca91f2b827c0b056380fe27077f94437671276763687", func := "polder/polderlaw22.VisitPlays", spec := "visitPlays", unfollowed := true, recurses := true, plainKeys := false, apart := false }
def VisitPlaysSaid : Prop := visitPlaysRow.holds Try.pinned (OpenSpec.ofChange visitPlaysSpec)

/-- ITS FALSE NEIGHBOUR: 'it returns false'. Refute it at one input. -/
def visitPlaysWrong : ChangeSpec := { name := "visitPlays", fn := fun _ => fun
  | [d1, d2, d3, d4, d5, d6] => { results := [.lit (.bool false)], args := [d1, d2, d3, d4, d5, d6] }
  | _ => none }
def VisitPlaysWrongFalsely : Prop := visitPlaysRow.holds Try.pinned (OpenSpec.ofChange visitPlaysWrong)

/-- 'polderlaw12.AllocTwo': WHATEVER THE INPUT: true; the input reads as it did. -/
def allocTwoSpec : ChangeSpec := { name := "allocTwo", fn := fun _ => fun
  | [d1, d2] => { results := [.lit (.bool true)], args := [d1, d2] }
  | _ => none }
def allocTwoRow : OpenClaim := { program := "ytmnhdpojonlfhaa", sum := "ad080983fe146051622fca91f2b827c0b056380fe27077f94437671276763687", func := "polder/polderlaw12.AllocTwo", spec := "allocTwo", unfollowed := true, recurses := true, plainKeys := false, apart := false }
def AllocTwoSaid : Prop := allocTwoRow.holds Try.pinned (OpenSpec.ofChange allocTwoSpec)

/-- ITS FALSE NEIGHBOUR: 'it returns false'. Refute it at one input. -/
def allocTwoWrong : ChangeSpec := { name := "allocTwo", fn := fun _ => fun
  | [d1, d2] => { results := [.lit (.bool false)], args := [d1, d2] }
  | _ => none }
def AllocTwoWrongFalsely : Prop := allocTwoRow.holds Try.pinned (OpenSpec.ofChange allocTwoWrong)

/-- 'polderlaw12.AllocCopies': WHATEVER THE INPUT: true; the input reads as it did. -/
def allocCopiesSpec : ChangeSpec := { name := "allocCopies", fn := fun _ => fun
  | [d1, d2, d3] => { results := [.lit (.bool true)], args := [d1, d2, d3] }
  | _ => none }
def allocCopiesRow : OpenClaim := { program := "ytmnhdpojonlfhaa", sum := "ad080983fe146051622fca91f2b827c0b056380fe27077f94437671276763687", func := "polder/polderlaw12.AllocCopies", spec := "allocCopies", unfollowed := true, recurses := true, plainKeys := false, apart := false }
def AllocCopiesSaid : Prop := allocCopiesRow.holds Try.pinned (OpenSpec.ofChange allocCopiesSpec)

/-- ITS FALSE NEIGHBOUR: 'it returns false'. Refute it at one input. -/
def allocCopiesWrong : ChangeSpec := { name := "allocCopies", fn := fun _ => fun
  | [d1, d2, d3] => { results := [.lit (.bool false)], args := [d1, d2, d3] }
  | _ => none }
def AllocCopiesWrongFalsely : Prop := allocCopiesRow.holds Try.pinned (OpenSpec.ofChange allocCopiesWrong)

/-- 'polderlaw12.AllocFull': WHATEVER THE INPUT: true; the input reads as it did. -/
def allocFullSpec : ChangeSpec := { name := "allocFull", fn := fun _ => fun
  | [d1, d2] => { results := [.lit (.bool true)], args := [d1, d2] }
  | _ => none }
def allocFullRow : OpenClaim := { program := "ytmnhdpojonlfhaa", sum := "ad080983fe146051622fca91f2b827c0b056380fe27077f94437671276763687", func := "polder/polderlaw12.AllocFull", spec := "allocFull", unfollowed := true, recurses := true, plainKeys := false, apart := false }
def AllocFullSaid : Prop := allocFullRow.holds Try.pinned (OpenSpec.ofChange allocFullSpec)

/-- ITS FALSE NEIGHBOUR: 'it returns false'. Refute it at one input. -/
def allocFullWrong : ChangeSpec := { name := "allocFull", fn := fun _ => fun
  | [d1, d2] => { results := [.lit (.bool false)], args := [d1, d2] }
  | _ => none }
def AllocFullWrongFalsely : Prop := allocFullRow.holds Try.pinned (OpenSpec.ofChange allocFullWrong)

/-- 'polderlaw12.AllocRight': WHATEVER THE INPUT: true; the input reads as it did. -/
def allocRightSpec : ChangeSpec := { name := "allocRight", fn := fun _ => fun
  | [d1, d2] => { results := [.lit (.bool true)], args := [d1, d2] }
  | _ => none }
def allocRightRow : OpenClaim := { program := "ytmnhdpojonlfhaa", sum := "ad080983fe146051622fca91f2b827c0b056380fe27077f94437671276763687", func := "polder/polderlaw12.AllocRight", spec := "allocRight", unfollowed := true, recurses := true, plainKeys := false, apart := false }
def AllocRightSaid : Prop := allocRightRow.holds Try.pinned (OpenSpec.ofChange allocRightSpec)

/-- ITS FALSE NEIGHBOUR: 'it returns false'. Refute it at one input. -/
def allocRightWrong : ChangeSpec := { name := "allocRight", fn := fun _ => fun
  | [d1, d2] => { results := [.lit (.bool false)], args := [d1, d2] }
  | _ => none }
def AllocRightWrongFalsely : Prop := allocRightRow.holds Try.pinned (OpenSpec.ofChange allocRightWrong)

/-- 'polderlaw12.AllocOver': WHATEVER THE INPUT: true; the input reads as it did. -/
def allocOverSpec : ChangeSpec := { name := "allocOver", fn := fun _ => fun
  | [d1, d2, d3] => { results := [.lit (.bool true)], args := [d1, d2, d3] }
  | _ => none }
def allocOverRow : OpenClaim := { program := "ytmnhdpojonlfhaa", sum := "ad080983fe146051622fca91f2b827c0b056380fe27077f94437671276763687", func := "polder/polderlaw12.AllocOver", spec := "allocOver", unfollowed := true, recurses := true, plainKeys := false, apart := false }
def AllocOverSaid : Prop := allocOverRow.holds Try.pinned (OpenSpec.ofChange allocOverSpec)

/-- ITS FALSE NEIGHBOUR: 'it returns false'. Refute it at one input. -/
def allocOverWrong : ChangeSpec := { name := "allocOver", fn := fun _ => fun
  | [d1, d2, d3] => { results := [.lit (.bool false)], args := [d1, d2, d3] }
  | _ => none }
def AllocOverWrongFalsely : Prop := allocOverRow.holds Try.pinned (OpenSpec.ofChange allocOverWrong)

/- THE SECOND FORM. 'bulk': how many values and letters a reading holds, each counted each time it is reached (what is shared counts as often as it is met; a slice's spare places count too). A statement '..UptoSaid' is the law's where the arguments, and the package variables that the reading takes, are together of bulk at most 1048576: NARROWER than '..Said'. Prove '..Said' where nothing that the law and all that it calls make is longer than what came in: it says more and counts as full. Else prove '..UptoSaid'. A law counts once. -/
mutual
def uptoBulk {H : Type} : DataW H → Nat
  | .lit (.string bytes) => bytes.length + 1
  | .lit _ => 1
  | .nil => 1
  | .ptr d => uptoBulk d + 1
  | .slice elems spare => uptoBulkAll elems + uptoBulkAll spare + 1
  | .agg parts => uptoBulkAll parts + 1
  | .iface _ d => uptoBulk d + 1
  | .map entries => uptoBulkEntries entries + 1
  | .held _ => 1
def uptoBulkAll {H : Type} : List (DataW H) → Nat
  | [] => 0
  | d :: r => uptoBulk d + uptoBulkAll r
def uptoBulkEntries {H : Type} : List (Lit × DataW H) → Nat
  | [] => 0
  | x :: r => uptoBulkEntry x + uptoBulkEntries r
def uptoBulkEntry {H : Type} : Lit × DataW H → Nat
  | (.string bytes, d) => bytes.length + uptoBulk d + 1
  | (_, d) => uptoBulk d + 1
 end
def uptoSmall : (H : Type) → List (DataW H) → Bool := fun _ ds => decide (uptoBulkAll ds ≤ 1048576)
def OpenSpec.upto (s : _root_.Go.ChangeSpec) : _root_.Go.OpenSpec := { _root_.Go.OpenSpec.ofChange s with cond := some uptoSmall }

/-- 'polderlaw03.ParSums', WHERE WHAT IT READS IS OF BULK AT MOST 1048576: true; the input reads as it did. -/
def parSumsUptoRow : OpenClaim := { program := "ytmnhdpojonlfhaa", sum := "ad080983fe146051622fca91f2b827c0b056380fe27077f94437671276763687", func := "polder/polderlaw03.ParSums", spec := "parSums", unfollowed := true, recurses := true, plainKeys := false, apart := false, narrowed := true }
def ParSumsUptoSaid : Prop := parSumsUptoRow.holds Try.pinned (OpenSpec.upto parSumsSpec)

/-- 'polderlaw03.ParAgain', WHERE WHAT IT READS IS OF BULK AT MOST 1048576: true; the input reads as it did. -/
def parAgainUptoRow : OpenClaim := { program := "ytmnhdpojonlfhaa", sum := "ad080983fe146051622fca91f2b827c0b056380fe27077f94437671276763687", func := "polder/polderlaw03.ParAgain", spec := "parAgain", unfollowed := true, recurses := true, plainKeys := false, apart := false, narrowed := true }
def ParAgainUptoSaid : Prop := parAgainUptoRow.holds Try.pinned (OpenSpec.upto parAgainSpec)

/-- 'polderlaw11.SpaceOrder', WHERE WHAT IT READS IS OF BULK AT MOST 1048576: true; the input reads as it did. -/
def spaceOrderUptoRow : OpenClaim := { program := "ytmnhdpojonlfhaa", sum := "ad080983fe146051622fca91f2b827c0b056380fe27077f94437671276763687", func := "polder/polderlaw11.SpaceOrder", spec := "spaceOrder", unfollowed := true, recurses := true, plainKeys := false, apart := false, narrowed := true }
def SpaceOrderUptoSaid : Prop := spaceOrderUptoRow.holds Try.pinned (OpenSpec.upto spaceOrderSpec)

/-- 'polderlaw11.SpacePlays', WHERE WHAT IT READS IS OF BULK AT MOST 1048576: true; the input reads as it did. -/
def spacePlaysUptoRow : OpenClaim := { program := "ytmnhdpojonlfhaa", sum := "ad080983fe146051622fca91f2b827c0b056380fe27077f94437671276763687", func := "polder/polderlaw11.SpacePlays", spec := "spacePlays", unfollowed := true, recurses := true, plainKeys := false, apart := false, narrowed := true }
def SpacePlaysUptoSaid : Prop := spacePlaysUptoRow.holds Try.pinned (OpenSpec.upto spacePlaysSpec)

/-- 'polderlaw11.SpaceBack', WHERE WHAT IT READS IS OF BULK AT MOST 1048576: true; the input reads as it did. -/
def spaceBackUptoRow : OpenClaim := { program := "ytmnhdpojonlfhaa", sum := "ad080983fe146051622fca91f2b827c0b056380fe27077f94437671276763687", func := "polder/polderlaw11.SpaceBack", spec := "spaceBack", unfollowed := true, recurses := true, plainKeys := false, apart := false, narrowed := true }
def SpaceBackUptoSaid : Prop := spaceBackUptoRow.holds Try.pinned (OpenSpec.upto spaceBackSpec)

/-- 'polderlaw11.SpaceRuns', WHERE WHAT IT READS IS OF BULK AT MOST 1048576: true; the input reads as it did. -/
def spaceRunsUptoRow : OpenClaim := { program := "ytmnhdpojonlfhaa", sum := "ad080983fe146051622fca91f2b827c0b056380fe27077f94437671276763687", func := "polder/polderlaw11.SpaceRuns", spec := "spaceRuns", unfollowed := true, recurses := true, plainKeys := false, apart := false, narrowed := true }
def SpaceRunsUptoSaid : Prop := spaceRunsUptoRow.holds Try.pinned (OpenSpec.upto spaceRunsSpec)

/-- 'polderlaw11.SpaceFinds', WHERE WHAT IT READS IS OF BULK AT MOST 1048576: true; the input reads as it did. -/
def spaceFindsUptoRow : OpenClaim := { program := "ytmnhdpojonlfhaa", sum := "ad080983fe146051622fca91f2b827c0b056380fe27077f94437671276763687", func := "polder/polderlaw11.SpaceFinds", spec := "spaceFinds", unfollowed := true, recurses := true, plainKeys := false, apart := false, narrowed := true }
def SpaceFindsUptoSaid : Prop := spaceFindsUptoRow.holds Try.pinned (OpenSpec.upto spaceFindsSpec)

/-- 'polderlaw11.SpaceCopies', WHERE WHAT IT READS IS OF BULK AT MOST 1048576: true; the input reads as it did. -/
def spaceCopiesUptoRow : OpenClaim := { program := "ytmnhdpojonlfhaa", sum := "ad080983fe146051622fca91f2b827c0b056380fe27077f94437671276763687", func := "polder/polderlaw11.SpaceCopies", spec := "spaceCopies", unfollowed := true, recurses := true, plainKeys := false, apart := false, narrowed := true }
def SpaceCopiesUptoSaid : Prop := spaceCopiesUptoRow.holds Try.pinned (OpenSpec.upto spaceCopiesSpec)

/-- 'polderlaw22.VisitOrder', WHERE WHAT IT READS IS OF BULK AT MOST 1048576: true; the input reads as it did. -/
def visitOrderUptoRow : OpenClaim := { program := "ytmnhdpojonlfhaa", sum := "ad080983fe146051622fca91f2b827c0b056380fe27077f94437671276763687", func := "polder/polderlaw22.VisitOrder", spec := "visitOrder", unfollowed := true, recurses := true, plainKeys := false, apart := false, narrowed := true }
def VisitOrderUptoSaid : Prop := visitOrderUptoRow.holds Try.pinned (OpenSpec.upto visitOrderSpec)

/-- 'polderlaw22.VisitDead', WHERE WHAT IT READS IS OF BULK AT MOST 1048576: true; the input reads as it did. -/
def visitDeadUptoRow : OpenClaim := { program := "ytmnhdpojonlfhaa", sum := "ad080983fe146051622fca91f2b827c0b056380fe27077f94437671276763687", func := "polder/polderlaw22.VisitDead", spec := "visitDead", unfollowed := true, recurses := true, plainKeys := false, apart := false, narrowed := true }
def VisitDeadUptoSaid : Prop := visitDeadUptoRow.holds Try.pinned (OpenSpec.upto visitDeadSpec)

/-- 'polderlaw22.VisitWithout', WHERE WHAT IT READS IS OF BULK AT MOST 1048576: true; the input reads as it did. -/
def visitWithoutUptoRow : OpenClaim := { program := "ytmnhdpojonlfhaa", sum := "ad080983fe146051622fca91f2b827c0b056380fe27077f94437671276763687", func := "polder/polderlaw22.VisitWithout", spec := "visitWithout", unfollowed := true, recurses := true, plainKeys := false, apart := false, narrowed := true }
def VisitWithoutUptoSaid : Prop := visitWithoutUptoRow.holds Try.pinned (OpenSpec.upto visitWithoutSpec)

/-- 'polderlaw22.VisitMeets', WHERE WHAT IT READS IS OF BULK AT MOST 1048576: true; the input reads as it did. -/
def visitMeetsUptoRow : OpenClaim := { program := "ytmnhdpojonlfhaa", sum := "ad080983fe146051622fca91f2b827c0b056380fe27077f94437671276763687", func := "polder/polderlaw22.VisitMeets", spec := "visitMeets", unfollowed := true, recurses := true, plainKeys := false, apart := false, narrowed := true }
def VisitMeetsUptoSaid : Prop := visitMeetsUptoRow.holds Try.pinned (OpenSpec.upto visitMeetsSpec)

/-- 'polderlaw22.VisitPlays', WHERE WHAT IT READS IS OF BULK AT MOST 1048576: true; the input reads as it did. -/
def visitPlaysUptoRow : OpenClaim := { program := "ytmnhdpojonlfhaa", sum := "ad080983fe146051622fca91f2b827c0b056380fe27077f94437671276763687", func := "polder/polderlaw22.VisitPlays", spec := "visitPlays", unfollowed := true, recurses := true, plainKeys := false, apart := false, narrowed := true }
def VisitPlaysUptoSaid : Prop := visitPlaysUptoRow.holds Try.pinned (OpenSpec.upto visitPlaysSpec)

/-- 'polderlaw12.AllocTwo', WHERE WHAT IT READS IS OF BULK AT MOST 1048576: true; the input reads as it did. -/
def allocTwoUptoRow : OpenClaim := { program := "ytmnhdpojonlfhaa", sum := "ad080983fe146051622fca91f2b827c0b056380fe27077f94437671276763687", func := "polder/polderlaw12.AllocTwo", spec := "allocTwo", unfollowed := true, recurses := true, plainKeys := false, apart := false, narrowed := true }
def AllocTwoUptoSaid : Prop := allocTwoUptoRow.holds Try.pinned (OpenSpec.upto allocTwoSpec)

/-- 'polderlaw12.AllocCopies', WHERE WHAT IT READS IS OF BULK AT MOST 1048576: true; the input reads as it did. -/
def allocCopiesUptoRow : OpenClaim := { program := "ytmnhdpojonlfhaa", sum := "ad080983fe146051622fca91f2b827c0b056380fe27077f94437671276763687", func := "polder/polderlaw12.AllocCopies", spec := "allocCopies", unfollowed := true, recurses := true, plainKeys := false, apart := false, narrowed := true }
def AllocCopiesUptoSaid : Prop := allocCopiesUptoRow.holds Try.pinned (OpenSpec.upto allocCopiesSpec)

/-- 'polderlaw12.AllocFull', WHERE WHAT IT READS IS OF BULK AT MOST 1048576: true; the input reads as it did. -/
def allocFullUptoRow : OpenClaim := { program := "ytmnhdpojonlfhaa", sum := "ad080983fe146051622fca91f2b827c0b056380fe27077f94437671276763687", func := "polder/polderlaw12.AllocFull", spec := "allocFull", unfollowed := true, recurses := true, plainKeys := false, apart := false, narrowed := true }
def AllocFullUptoSaid : Prop := allocFullUptoRow.holds Try.pinned (OpenSpec.upto allocFullSpec)

/-- 'polderlaw12.AllocRight', WHERE WHAT IT READS IS OF BULK AT MOST 1048576: true; the input reads as it did. -/
def allocRightUptoRow : OpenClaim := { program := "ytmnhdpojonlfhaa", sum := "ad080983fe146051622fca91f2b827c0b056380fe27077f94437671276763687", func := "polder/polderlaw12.AllocRight", spec := "allocRight", unfollowed := true, recurses := true, plainKeys := false, apart := false, narrowed := true }
def AllocRightUptoSaid : Prop := allocRightUptoRow.holds Try.pinned (OpenSpec.upto allocRightSpec)

/-- 'polderlaw12.AllocOver', WHERE WHAT IT READS IS OF BULK AT MOST 1048576: true; the input reads as it did. -/
def allocOverUptoRow : OpenClaim := { program := "ytmnhdpojonlfhaa", sum := "ad080983fe146051622fca91f2b827c0b056380fe27077f94437671276763687", func := "polder/polderlaw12.AllocOver", spec := "allocOver", unfollowed := true, recurses := true, plainKeys := false, apart := false, narrowed := true }
def AllocOverUptoSaid : Prop := allocOverUptoRow.holds Try.pinned (OpenSpec.upto allocOverSpec)

end Rows
end Go.Proofs.Ytmnhdpojonlfhaa
