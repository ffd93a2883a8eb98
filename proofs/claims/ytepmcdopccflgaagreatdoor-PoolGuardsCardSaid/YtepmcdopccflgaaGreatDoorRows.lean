/-
  NARROWER THAN 'FOR EVERY INPUT', by the rows' own cells (each row's printed sentence says how): PoolGuards: laid · PoolOne: laid · PoolReach: laid · PoolDrops: laid · PoolTwice: laid · PoolBack: laid · PoolVanish: laid.
  DERIVED. THE GIVEN ROWS OF THIS SEAT. 7 by the template 'for every input the law returns true; each argument reads behind the call as it read before'; 0 by the template 'total and deterministic' (their statements: YtepmcdopccflgaaGreatDoorTotals.lean).
  GIVEN WITH THE SEED: the statements are not yours to turn. If you find one false, say at which input.
  Laid BY PROGRAM, IN A SANDBOX (cutbox-rows.mjs): the forced cells as the released guide's own fill.sh prints them over the translation 9318c9ec47526eb2… (all of the seat's roots in one cut). By AI agents, Wed Nov 11 2026. No macro, syntax, notation, axiom, sorry.
-/
import Derived.Test.YtepmcdopccflgaaGreatDoorChecked
import GoSem.PinnedTables
import GoSem.Claim
import GoSem.ClaimJoined
import GoSem.ClaimMapViews
import Derived.JoinedTies
import Derived.KernelRfl
namespace Go.Proofs.YtepmcdopccflgaaGreatDoor
/- THE CELL 'sum', in the pinned program and in every row, IS THE sha256 OF THE DUMP (.gsa) THAT YtepmcdopccflgaaGreatDoorProg.lean LOADS. Nothing in Lean hashes anything: it is a label: what it is worth is what the hold of that sum in a sandbox is worth. -/
noncomputable def Tryz.pinned : Pinned := { name := "ytepmcdopccflgaagreatdoor", sum := "9318c9ec47526eb280b4a536e36ee6f3f6a04493acb1fb08d2f8440c3b578f31", checked := Tryz.checked }
namespace Rows
def none {H : Type} : Left H := { results := [], args := [] }

/- WHAT THE LISTED PACKAGE-LEVEL VARIABLES READ AS WHEN THE CALL BEGINS. Each datum BY PROGRAM (the guide's laid-datum.mjs) off the statement by which the dump's own 'gosem.cut.vars' lays the variable. In a bare row this is a premise. The card (YtepmcdopccflgaaGreatDoorCards.lean) ties it to the program's text. -/
def laid_unicode_utf8_acceptRanges {H : Type} : DataW H := .agg [.agg [.lit (.int .u8 128), .lit (.int .u8 191)], .agg [.lit (.int .u8 160), .lit (.int .u8 191)], .agg [.lit (.int .u8 128), .lit (.int .u8 159)], .agg [.lit (.int .u8 144), .lit (.int .u8 191)], .agg [.lit (.int .u8 128), .lit (.int .u8 143)], .agg [.lit (.int .u8 0), .lit (.int .u8 0)], .agg [.lit (.int .u8 0), .lit (.int .u8 0)], .agg [.lit (.int .u8 0), .lit (.int .u8 0)], .agg [.lit (.int .u8 0), .lit (.int .u8 0)], .agg [.lit (.int .u8 0), .lit (.int .u8 0)], .agg [.lit (.int .u8 0), .lit (.int .u8 0)], .agg [.lit (.int .u8 0), .lit (.int .u8 0)], .agg [.lit (.int .u8 0), .lit (.int .u8 0)], .agg [.lit (.int .u8 0), .lit (.int .u8 0)], .agg [.lit (.int .u8 0), .lit (.int .u8 0)], .agg [.lit (.int .u8 0), .lit (.int .u8 0)]]
/-- One of Go's own tables, pinned by name: the form's constant. -/
def laid_unicode_utf8_first : DataW Unit := Go.Pinned.utf8First

/-- 'polderlaw20.PoolGuards': WHATEVER THE INPUT: true; the input reads as it did. -/
def poolGuardsSpec : ChangeSpec := { name := "poolGuards", fn := fun _ => fun
  | [d1, d2, d3] => { results := [.lit (.bool true)], args := [d1, d2, d3] }
  | _ => none }
def poolGuardsRow : OpenClaim := { program := "ytepmcdopccflgaagreatdoor", sum := "9318c9ec47526eb280b4a536e36ee6f3f6a04493acb1fb08d2f8440c3b578f31", func := "polder/polderlaw20.PoolGuards", spec := "poolGuards", inPlace := ["internal/abi.NoEscape", "internal/bytealg.MakeNoZero", "internal/bytealg.IndexByteString", "internal/bytealg.IndexString"], unfollowed := true, recurses := true, named := ["unicode/utf8.first", "unicode/utf8.acceptRanges", "internal/bytealg.MaxLen"], plainKeys := false, apart := false, laid := [("unicode/utf8.acceptRanges", laid_unicode_utf8_acceptRanges), ("unicode/utf8.first", laid_unicode_utf8_first)] }
def PoolGuardsSaid : Prop := poolGuardsRow.holds Tryz.pinned (OpenSpec.ofChange poolGuardsSpec)

/-- ITS FALSE NEIGHBOUR: 'it returns false'. Refute it at one input. -/
def poolGuardsWrong : ChangeSpec := { name := "poolGuards", fn := fun _ => fun
  | [d1, d2, d3] => { results := [.lit (.bool false)], args := [d1, d2, d3] }
  | _ => none }
def PoolGuardsWrongFalsely : Prop := poolGuardsRow.holds Tryz.pinned (OpenSpec.ofChange poolGuardsWrong)

/-- 'polderlaw20.PoolOne': WHATEVER THE INPUT: true; the input reads as it did. -/
def poolOneSpec : ChangeSpec := { name := "poolOne", fn := fun _ => fun
  | [d1, d2, d3, d4] => { results := [.lit (.bool true)], args := [d1, d2, d3, d4] }
  | _ => none }
def poolOneRow : OpenClaim := { program := "ytepmcdopccflgaagreatdoor", sum := "9318c9ec47526eb280b4a536e36ee6f3f6a04493acb1fb08d2f8440c3b578f31", func := "polder/polderlaw20.PoolOne", spec := "poolOne", inPlace := ["internal/abi.NoEscape", "internal/bytealg.MakeNoZero", "internal/bytealg.IndexByteString", "internal/bytealg.IndexString"], unfollowed := true, recurses := true, named := ["unicode/utf8.first", "unicode/utf8.acceptRanges", "internal/bytealg.MaxLen"], plainKeys := false, apart := false, laid := [("unicode/utf8.acceptRanges", laid_unicode_utf8_acceptRanges), ("unicode/utf8.first", laid_unicode_utf8_first)] }
def PoolOneSaid : Prop := poolOneRow.holds Tryz.pinned (OpenSpec.ofChange poolOneSpec)

/-- ITS FALSE NEIGHBOUR: 'it returns false'. Refute it at one input. -/
def poolOneWrong : ChangeSpec := { name := "poolOne", fn := fun _ => fun
  | [d1, d2, d3, d4] => { results := [.lit (.bool false)], args := [d1, d2, d3, d4] }
  | _ => none }
def PoolOneWrongFalsely : Prop := poolOneRow.holds Tryz.pinned (OpenSpec.ofChange poolOneWrong)

/-- 'polderlaw20.PoolReach': WHATEVER THE INPUT: true; the input reads as it did. -/
def poolReachSpec : ChangeSpec := { name := "poolReach", fn := fun _ => fun
  | [d1, d2] => { results := [.lit (.bool true)], args := [d1, d2] }
  | _ => none }
def poolReachRow : OpenClaim := { program := "ytepmcdopccflgaagreatdoor", sum := "9318c9ec47526eb280b4a536e36ee6f3f6a04493acb1fb08d2f8440c3b578f31", func := "polder/polderlaw20.PoolReach", spec := "poolReach", inPlace := ["internal/abi.NoEscape", "internal/bytealg.MakeNoZero", "internal/bytealg.IndexByteString", "internal/bytealg.IndexString"], unfollowed := true, recurses := true, named := ["unicode/utf8.first", "unicode/utf8.acceptRanges", "internal/bytealg.MaxLen"], plainKeys := false, apart := false, laid := [("unicode/utf8.acceptRanges", laid_unicode_utf8_acceptRanges), ("unicode/utf8.first", laid_unicode_utf8_first)] }
def PoolReachSaid : Prop := poolReachRow.holds Tryz.pinned (OpenSpec.ofChange poolReachSpec)

/-- ITS FALSE NEIGHBOUR: 'it returns false'. Refute it at one input. -/
def poolReachWrong : ChangeSpec := { name := "poolReach", fn := fun _ => fun
  | [d1, d2] => { results := [.lit (.bool false)], args := [d1, d2] }
  | _ => none }
def PoolReachWrongFalsely : Prop := poolReachRow.holds Tryz.pinned (OpenSpec.ofChange poolReachWrong)

/-- 'polderlaw20.PoolDrops': WHATEVER THE INPUT: true; the input reads as it did. -/
def poolDropsSpec : ChangeSpec := { name := "poolDrops", fn := fun _ => fun
  | [d1, d2, d3] => { results := [.lit (.bool true)], args := [d1, d2, d3] }
  | _ => none }
def poolDropsRow : OpenClaim := { program := "ytepmcdopccflgaagreatdoor", sum := "9318c9ec47526eb280b4a536e36ee6f3f6a04493acb1fb08d2f8440c3b578f31", func := "polder/polderlaw20.PoolDrops", spec := "poolDrops", inPlace := ["internal/abi.NoEscape", "internal/bytealg.MakeNoZero", "internal/bytealg.IndexByteString", "internal/bytealg.IndexString"], unfollowed := true, recurses := true, named := ["unicode/utf8.first", "unicode/utf8.acceptRanges", "internal/bytealg.MaxLen"], plainKeys := false, apart := false, laid := [("unicode/utf8.acceptRanges", laid_unicode_utf8_acceptRanges), ("unicode/utf8.first", laid_unicode_utf8_first)] }
def PoolDropsSaid : Prop := poolDropsRow.holds Tryz.pinned (OpenSpec.ofChange poolDropsSpec)

/-- ITS FALSE NEIGHBOUR: 'it returns false'. Refute it at one input. -/
def poolDropsWrong : ChangeSpec := { name := "poolDrops", fn := fun _ => fun
  | [d1, d2, d3] => { results := [.lit (.bool false)], args := [d1, d2, d3] }
  | _ => none }
def PoolDropsWrongFalsely : Prop := poolDropsRow.holds Tryz.pinned (OpenSpec.ofChange poolDropsWrong)

/-- 'polderlaw20.PoolTwice': WHATEVER THE INPUT: true; the input reads as it did. -/
def poolTwiceSpec : ChangeSpec := { name := "poolTwice", fn := fun _ => fun
  | [d1, d2] => { results := [.lit (.bool true)], args := [d1, d2] }
  | _ => none }
def poolTwiceRow : OpenClaim := { program := "ytepmcdopccflgaagreatdoor", sum := "9318c9ec47526eb280b4a536e36ee6f3f6a04493acb1fb08d2f8440c3b578f31", func := "polder/polderlaw20.PoolTwice", spec := "poolTwice", inPlace := ["internal/abi.NoEscape", "internal/bytealg.MakeNoZero", "internal/bytealg.IndexByteString", "internal/bytealg.IndexString"], unfollowed := true, recurses := true, named := ["unicode/utf8.first", "unicode/utf8.acceptRanges", "internal/bytealg.MaxLen"], plainKeys := false, apart := false, laid := [("unicode/utf8.acceptRanges", laid_unicode_utf8_acceptRanges), ("unicode/utf8.first", laid_unicode_utf8_first)] }
def PoolTwiceSaid : Prop := poolTwiceRow.holds Tryz.pinned (OpenSpec.ofChange poolTwiceSpec)

/-- ITS FALSE NEIGHBOUR: 'it returns false'. Refute it at one input. -/
def poolTwiceWrong : ChangeSpec := { name := "poolTwice", fn := fun _ => fun
  | [d1, d2] => { results := [.lit (.bool false)], args := [d1, d2] }
  | _ => none }
def PoolTwiceWrongFalsely : Prop := poolTwiceRow.holds Tryz.pinned (OpenSpec.ofChange poolTwiceWrong)

/-- 'polderlaw20.PoolBack': WHATEVER THE INPUT: true; the input reads as it did. -/
def poolBackSpec : ChangeSpec := { name := "poolBack", fn := fun _ => fun
  | [d1, d2, d3] => { results := [.lit (.bool true)], args := [d1, d2, d3] }
  | _ => none }
def poolBackRow : OpenClaim := { program := "ytepmcdopccflgaagreatdoor", sum := "9318c9ec47526eb280b4a536e36ee6f3f6a04493acb1fb08d2f8440c3b578f31", func := "polder/polderlaw20.PoolBack", spec := "poolBack", inPlace := ["internal/abi.NoEscape", "internal/bytealg.MakeNoZero", "internal/bytealg.IndexByteString", "internal/bytealg.IndexString"], unfollowed := true, recurses := true, named := ["unicode/utf8.first", "unicode/utf8.acceptRanges", "internal/bytealg.MaxLen"], plainKeys := false, apart := false, laid := [("unicode/utf8.acceptRanges", laid_unicode_utf8_acceptRanges), ("unicode/utf8.first", laid_unicode_utf8_first)] }
def PoolBackSaid : Prop := poolBackRow.holds Tryz.pinned (OpenSpec.ofChange poolBackSpec)

/-- ITS FALSE NEIGHBOUR: 'it returns false'. Refute it at one input. -/
def poolBackWrong : ChangeSpec := { name := "poolBack", fn := fun _ => fun
  | [d1, d2, d3] => { results := [.lit (.bool false)], args := [d1, d2, d3] }
  | _ => none }
def PoolBackWrongFalsely : Prop := poolBackRow.holds Tryz.pinned (OpenSpec.ofChange poolBackWrong)

/-- 'polderlaw20.PoolVanish': WHATEVER THE INPUT: true; the input reads as it did. -/
def poolVanishSpec : ChangeSpec := { name := "poolVanish", fn := fun _ => fun
  | [d1, d2, d3, d4] => { results := [.lit (.bool true)], args := [d1, d2, d3, d4] }
  | _ => none }
def poolVanishRow : OpenClaim := { program := "ytepmcdopccflgaagreatdoor", sum := "9318c9ec47526eb280b4a536e36ee6f3f6a04493acb1fb08d2f8440c3b578f31", func := "polder/polderlaw20.PoolVanish", spec := "poolVanish", inPlace := ["internal/abi.NoEscape", "internal/bytealg.MakeNoZero", "internal/bytealg.IndexByteString", "internal/bytealg.IndexString"], unfollowed := true, recurses := true, named := ["unicode/utf8.first", "unicode/utf8.acceptRanges", "internal/bytealg.MaxLen"], plainKeys := false, apart := false, laid := [("unicode/utf8.acceptRanges", laid_unicode_utf8_acceptRanges), ("unicode/utf8.first", laid_unicode_utf8_first)] }
def PoolVanishSaid : Prop := poolVanishRow.holds Tryz.pinned (OpenSpec.ofChange poolVanishSpec)

/-- ITS FALSE NEIGHBOUR: 'it returns false'. Refute it at one input. -/
def poolVanishWrong : ChangeSpec := { name := "poolVanish", fn := fun _ => fun
  | [d1, d2, d3, d4] => { results := [.lit (.bool false)], args := [d1, d2, d3, d4] }
  | _ => none }
def PoolVanishWrongFalsely : Prop := poolVanishRow.holds Tryz.pinned (OpenSpec.ofChange poolVanishWrong)

/- THE SECOND FORM. 'bulk': how many values and letters a reading holds, each counted each time it is reached (what is shared counts as often as it is met; a slice's spare places count too). A statement '..UptoSaid' is the law's where the arguments, and the package variables that the reading takes, are together of bulk at most 1048576: NARROWER than '..Said'. Prove '..Said' where nothing that the law and all that it calls make is longer than what came in: it says more and counts as full. Else prove '..UptoSaid'. A law counts once. -/
mutual
def uptoBulk {H : Type} : DataW H → Nat
  | .lit (.string bytes) => bytes.length + 1
  | .lit _ => 1
  | .nil => 1
  | .ptr d => uptoBulk d + 1
  | .slice elems spare => uptoBulkAll elems + uptoBulkAll spare + 1
  | .agg parts => uptoBulkAll parts + 1
  | .iface _ d => uptoBulk d + 1
  | .map entries => uptoBulkEntries entries + 1
  | .held _ => 1
def uptoBulkAll {H : Type} : List (DataW H) → Nat
  | [] => 0
  | d :: r => uptoBulk d + uptoBulkAll r
def uptoBulkEntries {H : Type} : List (Lit × DataW H) → Nat
  | [] => 0
  | x :: r => uptoBulkEntry x + uptoBulkEntries r
def uptoBulkEntry {H : Type} : Lit × DataW H → Nat
  | (.string bytes, d) => bytes.length + uptoBulk d + 1
  | (_, d) => uptoBulk d + 1
 end
def uptoSmall : (H : Type) → List (DataW H) → Bool := fun _ ds => decide (uptoBulkAll ds ≤ 1048576)
def OpenSpec.upto (s : _root_.Go.ChangeSpec) : _root_.Go.OpenSpec := { _root_.Go.OpenSpec.ofChange s with cond := some uptoSmall }

/-- 'polderlaw20.PoolGuards', WHERE WHAT IT READS IS OF BULK AT MOST 1048576: true; the input reads as it did. -/
def poolGuardsUptoRow : OpenClaim := { program := "ytepmcdopccflgaagreatdoor", sum := "9318c9ec47526eb280b4a536e36ee6f3f6a04493acb1fb08d2f8440c3b578f31", func := "polder/polderlaw20.PoolGuards", spec := "poolGuards", inPlace := ["internal/abi.NoEscape", "internal/bytealg.MakeNoZero", "internal/bytealg.IndexByteString", "internal/bytealg.IndexString"], unfollowed := true, recurses := true, named := ["unicode/utf8.first", "unicode/utf8.acceptRanges", "internal/bytealg.MaxLen"], plainKeys := false, apart := false, laid := [("unicode/utf8.acceptRanges", laid_unicode_utf8_acceptRanges), ("unicode/utf8.first", laid_unicode_utf8_first)], narrowed := true }
def PoolGuardsUptoSaid : Prop := poolGuardsUptoRow.holds Tryz.pinned (OpenSpec.upto poolGuardsSpec)

/-- 'polderlaw20.PoolOne', WHERE WHAT IT READS IS OF BULK AT MOST 1048576: true; the input reads as it did. -/
def poolOneUptoRow : OpenClaim := { program := "ytepmcdopccflgaagreatdoor", sum := "9318c9ec47526eb280b4a536e36ee6f3f6a04493acb1fb08d2f8440c3b578f31", func := "polder/polderlaw20.PoolOne", spec := "poolOne", inPlace := ["internal/abi.NoEscape", "internal/bytealg.MakeNoZero", "internal/bytealg.IndexByteString", "internal/bytealg.IndexString"], unfollowed := true, recurses := true, named := ["unicode/utf8.first", "unicode/utf8.acceptRanges", "internal/bytealg.MaxLen"], plainKeys := false, apart := false, laid := [("unicode/utf8.acceptRanges", laid_unicode_utf8_acceptRanges), ("unicode/utf8.first", laid_unicode_utf8_first)], narrowed := true }
def PoolOneUptoSaid : Prop := poolOneUptoRow.holds Tryz.pinned (OpenSpec.upto poolOneSpec)

/-- 'polderlaw20.PoolReach', WHERE WHAT IT READS IS OF BULK AT MOST 1048576: true; the input reads as it did. -/
def poolReachUptoRow : OpenClaim := { program := "ytepmcdopccflgaagreatdoor", sum := "9318c9ec47526eb280b4a536e36ee6f3f6a04493acb1fb08d2f8440c3b578f31", func := "polder/polderlaw20.PoolReach", spec := "poolReach", inPlace := ["internal/abi.NoEscape", "internal/bytealg.MakeNoZero", "internal/bytealg.IndexByteString", "internal/bytealg.IndexString"], unfollowed := true, recurses := true, named := ["unicode/utf8.first", "unicode/utf8.acceptRanges", "internal/bytealg.MaxLen"], plainKeys := false, apart := false, laid := [("unicode/utf8.acceptRanges", laid_unicode_utf8_acceptRanges), ("unicode/utf8.first", laid_unicode_utf8_first)], narrowed := true }
def PoolReachUptoSaid : Prop := poolReachUptoRow.holds Tryz.pinned (OpenSpec.upto poolReachSpec)

/-- 'polderlaw20.PoolDrops', WHERE WHAT IT READS IS OF BULK AT MOST 1048576: true; the input reads as it did. -/
def poolDropsUptoRow : OpenClaim := { program := "ytepmcdopccflgaagreatdoor", sum := "9318c9ec47526eb280b4a536e36ee6f3f6a04493acb1fb08d2f8440c3b578f31", func := "polder/polderlaw20.PoolDrops", spec := "poolDrops", inPlace := ["internal/abi.NoEscape", "internal/bytealg.MakeNoZero", "internal/bytealg.IndexByteString", "internal/bytealg.IndexString"], unfollowed := true, recurses := true, named := ["unicode/utf8.first", "unicode/utf8.acceptRanges", "internal/bytealg.MaxLen"], plainKeys := false, apart := false, laid := [("unicode/utf8.acceptRanges", laid_unicode_utf8_acceptRanges), ("unicode/utf8.first", laid_unicode_utf8_first)], narrowed := true }
def PoolDropsUptoSaid : Prop := poolDropsUptoRow.holds Tryz.pinned (OpenSpec.upto poolDropsSpec)

/-- 'polderlaw20.PoolTwice', WHERE WHAT IT READS IS OF BULK AT MOST 1048576: true; the input reads as it did. -/
def poolTwiceUptoRow : OpenClaim := { program := "ytepmcdopccflgaagreatdoor", sum := "9318c9ec47526eb280b4a536e36ee6f3f6a04493acb1fb08d2f8440c3b578f31", func := "polder/polderlaw20.PoolTwice", spec := "poolTwice", inPlace := ["internal/abi.NoEscape", "internal/bytealg.MakeNoZero", "internal/bytealg.IndexByteString", "internal/bytealg.IndexString"], unfollowed := true, recurses := true, named := ["unicode/utf8.first", "unicode/utf8.acceptRanges", "internal/bytealg.MaxLen"], plainKeys := false, apart := false, laid := [("unicode/utf8.acceptRanges", laid_unicode_utf8_acceptRanges), ("unicode/utf8.first", laid_unicode_utf8_first)], narrowed := true }
def PoolTwiceUptoSaid : Prop := poolTwiceUptoRow.holds Tryz.pinned (OpenSpec.upto poolTwiceSpec)

/-- 'polderlaw20.PoolBack', WHERE WHAT IT READS IS OF BULK AT MOST 1048576: true; the input reads as it did. -/
def poolBackUptoRow : OpenClaim := { program := "ytepmcdopccflgaagreatdoor", sum := "9318c9ec47526eb280b4a536e36ee6f3f6a04493acb1fb08d2f8440c3b578f31", func := "polder/polderlaw20.PoolBack", spec := "poolBack", inPlace := ["internal/abi.NoEscape", "internal/bytealg.MakeNoZero", "internal/bytealg.IndexByteString", "internal/bytealg.IndexString"], unfollowed := true, recurses := true, named := ["unicode/utf8.first", "unicode/utf8.acceptRanges", "internal/bytealg.MaxLen"], plainKeys := false, apart := false, laid := [("unicode/utf8.acceptRanges", laid_unicode_utf8_acceptRanges), ("unicode/utf8.first", laid_unicode_utf8_first)], narrowed := true }
def PoolBackUptoSaid : Prop := poolBackUptoRow.holds Tryz.pinned (OpenSpec.upto poolBackSpec)

/-- 'polderlaw20.PoolVanish', WHERE WHAT IT READS IS OF BULK AT MOST 1048576: true; the input reads as it did. -/
def poolVanishUptoRow : OpenClaim := { program := "ytepmcdopccflgaagreatdoor", sum := "9318c9ec47526eb280b4a536e36ee6f3f6a04493acb1fb08d2f8440c3b578f31", func := "polder/polderlaw20.PoolVanish", spec := "poolVanish", inPlace := ["internal/abi.NoEscape", "internal/bytealg.MakeNoZero", "internal/bytealg.IndexByteString", "internal/bytealg.IndexString"], unfollowed := true, recurses := true, named := ["unicode/utf8.first", "unicode/utf8.acceptRanges", "internal/bytealg.MaxLen"], plainKeys := false, apart := false, laid := [("unicode/utf8.acceptRanges", laid_unicode_utf8_acceptRanges), ("unicode/utf8.first", laid_unicode_utf8_first)], narrowed := true }
def PoolVanishUptoSaid : Prop := poolVanishUptoRow.holds Tryz.pinned (OpenSpec.upto poolVanishSpec)

end Rows
end Go.Proofs.YtepmcdopccflgaaGreatDoor
