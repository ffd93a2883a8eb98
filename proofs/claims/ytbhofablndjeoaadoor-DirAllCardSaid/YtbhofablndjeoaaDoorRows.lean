/-
  NARROWER THAN 'FOR EVERY INPUT', by the rows' own cells (each row's printed sentence says how): TreeKeeps: laid · TreeStops: laid · TreeParts: laid · TreeAll: laid · DirOrder: laid · DirPlays: laid · DirOthers: laid · DirAll: laid.
  DERIVED. THE GIVEN ROWS OF THIS SEAT. 8 by the template 'for every input the law returns true; each argument reads behind the call as it read before'; 0 by the template 'total and deterministic' (their statements: YtbhofablndjeoaaDoorTotals.lean).
  GIVEN WITH THE SEED: the statements are not yours to turn. If you find one false, say at which input.
  Laid BY PROGRAM, IN A SANDBOX (cutbox-rows.mjs): the forced cells as the released guide's own fill.sh prints them over the translation 279de6d70a8a3361… (all of the seat's roots in one cut). By AI agents, Wed Nov 11 2026. No macro, syntax, notation, axiom, sorry.
-/
import Derived.Test.YtbhofablndjeoaaDoorChecked
import GoSem.PinnedTables
import GoSem.Claim
import GoSem.ClaimJoined
import GoSem.ClaimMapViews
import Derived.JoinedTies
import Derived.KernelRfl
namespace Go.Proofs.YtbhofablndjeoaaDoor
/- THE CELL 'sum', in the pinned program and in every row, IS THE sha256 OF THE DUMP (.gsa) THAT YtbhofablndjeoaaDoorProg.lean LOADS. Nothing in Lean hashes anything: it is a label: what it is worth is what the hold of that sum in a sandbox is worth. -/
noncomputable def Tryd.pinned : Pinned := { name := "ytbhofablndjeoaadoor", sum := "279de6d70a8a33616e43ff07468b1d22aa1457dd2b2f8f4a6bb447e5012f7f1e", checked := Tryd.checked }
namespace Rows
def none {H : Type} : Left H := { results := [], args := [] }

/- WHAT THE LISTED PACKAGE-LEVEL VARIABLES READ AS WHEN THE CALL BEGINS. Each datum BY PROGRAM (the guide's laid-datum.mjs) off the statement by which the dump's own 'gosem.cut.vars' lays the variable. In a bare row this is a premise. The card (YtbhofablndjeoaaDoorCards.lean) ties it to the program's text. -/
def laid_unicode_utf8_acceptRanges {H : Type} : DataW H := .agg [.agg [.lit (.int .u8 128), .lit (.int .u8 191)], .agg [.lit (.int .u8 160), .lit (.int .u8 191)], .agg [.lit (.int .u8 128), .lit (.int .u8 159)], .agg [.lit (.int .u8 144), .lit (.int .u8 191)], .agg [.lit (.int .u8 128), .lit (.int .u8 143)], .agg [.lit (.int .u8 0), .lit (.int .u8 0)], .agg [.lit (.int .u8 0), .lit (.int .u8 0)], .agg [.lit (.int .u8 0), .lit (.int .u8 0)], .agg [.lit (.int .u8 0), .lit (.int .u8 0)], .agg [.lit (.int .u8 0), .lit (.int .u8 0)], .agg [.lit (.int .u8 0), .lit (.int .u8 0)], .agg [.lit (.int .u8 0), .lit (.int .u8 0)], .agg [.lit (.int .u8 0), .lit (.int .u8 0)], .agg [.lit (.int .u8 0), .lit (.int .u8 0)], .agg [.lit (.int .u8 0), .lit (.int .u8 0)], .agg [.lit (.int .u8 0), .lit (.int .u8 0)]]
/-- One of Go's own tables, pinned by name: the form's constant. -/
def laid_unicode_utf8_first : DataW Unit := Go.Pinned.utf8First

/-- 'polderlaw14.TreeKeeps': WHATEVER THE INPUT: true; the input reads as it did. -/
def treeKeepsSpec : ChangeSpec := { name := "treeKeeps", fn := fun _ => fun
  | [d] => { results := [.lit (.bool true)], args := [d] }
  | _ => none }
def treeKeepsRow : OpenClaim := { program := "ytbhofablndjeoaadoor", sum := "279de6d70a8a33616e43ff07468b1d22aa1457dd2b2f8f4a6bb447e5012f7f1e", func := "polder/polderlaw14.TreeKeeps", spec := "treeKeeps", inPlace := ["internal/abi.NoEscape", "internal/bytealg.MakeNoZero", "internal/bytealg.IndexByteString", "internal/bytealg.IndexString"], unfollowed := true, recurses := true, named := ["unicode/utf8.first", "unicode/utf8.acceptRanges", "internal/bytealg.MaxLen"], apart := false, laid := [("unicode/utf8.acceptRanges", laid_unicode_utf8_acceptRanges), ("unicode/utf8.first", laid_unicode_utf8_first)] }
def TreeKeepsSaid : Prop := treeKeepsRow.holds Tryd.pinned (OpenSpec.ofChange treeKeepsSpec)

/-- ITS FALSE NEIGHBOUR: 'it returns false'. Refute it at one input. -/
def treeKeepsWrong : ChangeSpec := { name := "treeKeeps", fn := fun _ => fun
  | [d] => { results := [.lit (.bool false)], args := [d] }
  | _ => none }
def TreeKeepsWrongFalsely : Prop := treeKeepsRow.holds Tryd.pinned (OpenSpec.ofChange treeKeepsWrong)

/-- 'polderlaw14.TreeStops': WHATEVER THE INPUT: true; the input reads as it did. -/
def treeStopsSpec : ChangeSpec := { name := "treeStops", fn := fun _ => fun
  | [d1, d2] => { results := [.lit (.bool true)], args := [d1, d2] }
  | _ => none }
def treeStopsRow : OpenClaim := { program := "ytbhofablndjeoaadoor", sum := "279de6d70a8a33616e43ff07468b1d22aa1457dd2b2f8f4a6bb447e5012f7f1e", func := "polder/polderlaw14.TreeStops", spec := "treeStops", inPlace := ["internal/abi.NoEscape", "internal/bytealg.MakeNoZero", "internal/bytealg.IndexByteString", "internal/bytealg.IndexString"], unfollowed := true, recurses := true, named := ["unicode/utf8.first", "unicode/utf8.acceptRanges", "internal/bytealg.MaxLen"], apart := false, laid := [("unicode/utf8.acceptRanges", laid_unicode_utf8_acceptRanges), ("unicode/utf8.first", laid_unicode_utf8_first)] }
def TreeStopsSaid : Prop := treeStopsRow.holds Tryd.pinned (OpenSpec.ofChange treeStopsSpec)

/-- ITS FALSE NEIGHBOUR: 'it returns false'. Refute it at one input. -/
def treeStopsWrong : ChangeSpec := { name := "treeStops", fn := fun _ => fun
  | [d1, d2] => { results := [.lit (.bool false)], args := [d1, d2] }
  | _ => none }
def TreeStopsWrongFalsely : Prop := treeStopsRow.holds Tryd.pinned (OpenSpec.ofChange treeStopsWrong)

/-- 'polderlaw14.TreeParts': WHATEVER THE INPUT: true; the input reads as it did. -/
def treePartsSpec : ChangeSpec := { name := "treeParts", fn := fun _ => fun
  | [d1, d2, d3, d4, d5] => { results := [.lit (.bool true)], args := [d1, d2, d3, d4, d5] }
  | _ => none }
def treePartsRow : OpenClaim := { program := "ytbhofablndjeoaadoor", sum := "279de6d70a8a33616e43ff07468b1d22aa1457dd2b2f8f4a6bb447e5012f7f1e", func := "polder/polderlaw14.TreeParts", spec := "treeParts", inPlace := ["internal/abi.NoEscape", "internal/bytealg.MakeNoZero", "internal/bytealg.IndexByteString", "internal/bytealg.IndexString"], unfollowed := true, recurses := true, named := ["unicode/utf8.first", "unicode/utf8.acceptRanges", "internal/bytealg.MaxLen"], apart := false, laid := [("unicode/utf8.acceptRanges", laid_unicode_utf8_acceptRanges), ("unicode/utf8.first", laid_unicode_utf8_first)] }
def TreePartsSaid : Prop := treePartsRow.holds Tryd.pinned (OpenSpec.ofChange treePartsSpec)

/-- ITS FALSE NEIGHBOUR: 'it returns false'. Refute it at one input. -/
def treePartsWrong : ChangeSpec := { name := "treeParts", fn := fun _ => fun
  | [d1, d2, d3, d4, d5] => { results := [.lit (.bool false)], args := [d1, d2, d3, d4, d5] }
  | _ => none }
def TreePartsWrongFalsely : Prop := treePartsRow.holds Tryd.pinned (OpenSpec.ofChange treePartsWrong)

/-- 'polderlaw14.TreeAll': WHATEVER THE INPUT: true; the input reads as it did. -/
def treeAllSpec : ChangeSpec := { name := "treeAll", fn := fun _ => fun
  | [d] => { results := [.lit (.bool true)], args := [d] }
  | _ => none }
def treeAllRow : OpenClaim := { program := "ytbhofablndjeoaadoor", sum := "279de6d70a8a33616e43ff07468b1d22aa1457dd2b2f8f4a6bb447e5012f7f1e", func := "polder/polderlaw14.TreeAll", spec := "treeAll", inPlace := ["internal/abi.NoEscape", "internal/bytealg.MakeNoZero", "internal/bytealg.IndexByteString", "internal/bytealg.IndexString"], unfollowed := true, recurses := true, named := ["unicode/utf8.first", "unicode/utf8.acceptRanges", "internal/bytealg.MaxLen"], apart := false, laid := [("unicode/utf8.acceptRanges", laid_unicode_utf8_acceptRanges), ("unicode/utf8.first", laid_unicode_utf8_first)] }
def TreeAllSaid : Prop := treeAllRow.holds Tryd.pinned (OpenSpec.ofChange treeAllSpec)

/-- ITS FALSE NEIGHBOUR: 'it returns false'. Refute it at one input. -/
def treeAllWrong : ChangeSpec := { name := "treeAll", fn := fun _ => fun
  | [d] => { results := [.lit (.bool false)], args := [d] }
  | _ => none }
def TreeAllWrongFalsely : Prop := treeAllRow.holds Tryd.pinned (OpenSpec.ofChange treeAllWrong)

/-- 'polderlaw16.DirOrder': WHATEVER THE INPUT: true; the input reads as it did. -/
def dirOrderSpec : ChangeSpec := { name := "dirOrder", fn := fun _ => fun
  | [d1, d2] => { results := [.lit (.bool true)], args := [d1, d2] }
  | _ => none }
def dirOrderRow : OpenClaim := { program := "ytbhofablndjeoaadoor", sum := "279de6d70a8a33616e43ff07468b1d22aa1457dd2b2f8f4a6bb447e5012f7f1e", func := "polder/polderlaw16.DirOrder", spec := "dirOrder", inPlace := ["internal/abi.NoEscape", "internal/bytealg.MakeNoZero", "internal/bytealg.IndexByteString", "internal/bytealg.IndexString"], unfollowed := true, recurses := true, named := ["unicode/utf8.first", "unicode/utf8.acceptRanges", "internal/bytealg.MaxLen"], apart := false, laid := [("unicode/utf8.acceptRanges", laid_unicode_utf8_acceptRanges), ("unicode/utf8.first", laid_unicode_utf8_first)] }
def DirOrderSaid : Prop := dirOrderRow.holds Tryd.pinned (OpenSpec.ofChange dirOrderSpec)

/-- ITS FALSE NEIGHBOUR: 'it returns false'. Refute it at one input. -/
def dirOrderWrong : ChangeSpec := { name := "dirOrder", fn := fun _ => fun
  | [d1, d2] => { results := [.lit (.bool false)], args := [d1, d2] }
  | _ => none }
def DirOrderWrongFalsely : Prop := dirOrderRow.holds Tryd.pinned (OpenSpec.ofChange dirOrderWrong)

/-- 'polderlaw16.DirPlays': WHATEVER THE INPUT: true; the input reads as it did. -/
def dirPlaysSpec : ChangeSpec := { name := "dirPlays", fn := fun _ => fun
  | [d] => { results := [.lit (.bool true)], args := [d] }
  | _ => none }
def dirPlaysRow : OpenClaim := { program := "ytbhofablndjeoaadoor", sum := "279de6d70a8a33616e43ff07468b1d22aa1457dd2b2f8f4a6bb447e5012f7f1e", func := "polder/polderlaw16.DirPlays", spec := "dirPlays", inPlace := ["internal/abi.NoEscape", "internal/bytealg.MakeNoZero", "internal/bytealg.IndexByteString", "internal/bytealg.IndexString"], unfollowed := true, recurses := true, named := ["unicode/utf8.first", "unicode/utf8.acceptRanges", "internal/bytealg.MaxLen"], apart := false, laid := [("unicode/utf8.acceptRanges", laid_unicode_utf8_acceptRanges), ("unicode/utf8.first", laid_unicode_utf8_first)] }
def DirPlaysSaid : Prop := dirPlaysRow.holds Tryd.pinned (OpenSpec.ofChange dirPlaysSpec)

/-- ITS FALSE NEIGHBOUR: 'it returns false'. Refute it at one input. -/
def dirPlaysWrong : ChangeSpec := { name := "dirPlays", fn := fun _ => fun
  | [d] => { results := [.lit (.bool false)], args := [d] }
  | _ => none }
def DirPlaysWrongFalsely : Prop := dirPlaysRow.holds Tryd.pinned (OpenSpec.ofChange dirPlaysWrong)

/-- 'polderlaw16.DirOthers': WHATEVER THE INPUT: true; the input reads as it did. -/
def dirOthersSpec : ChangeSpec := { name := "dirOthers", fn := fun _ => fun
  | [d1, d2, d3, d4] => { results := [.lit (.bool true)], args := [d1, d2, d3, d4] }
  | _ => none }
def dirOthersRow : OpenClaim := { program := "ytbhofablndjeoaadoor", sum := "279de6d70a8a33616e43ff07468b1d22aa1457dd2b2f8f4a6bb447e5012f7f1e", func := "polder/polderlaw16.DirOthers", spec := "dirOthers", inPlace := ["internal/abi.NoEscape", "internal/bytealg.MakeNoZero", "internal/bytealg.IndexByteString", "internal/bytealg.IndexString"], unfollowed := true, recurses := true, named := ["unicode/utf8.first", "unicode/utf8.acceptRanges", "internal/bytealg.MaxLen"], apart := false, laid := [("unicode/utf8.acceptRanges", laid_unicode_utf8_acceptRanges), ("unicode/utf8.first", laid_unicode_utf8_first)] }
def DirOthersSaid : Prop := dirOthersRow.holds Tryd.pinned (OpenSpec.ofChange dirOthersSpec)

/-- ITS FALSE NEIGHBOUR: 'it returns false'. Refute it at one input. -/
def dirOthersWrong : ChangeSpec := { name := "dirOthers", fn := fun _ => fun
  | [d1, d2, d3, d4] => { results := [.lit (.bool false)], args := [d1, d2, d3, d4] }
  | _ => none }
def DirOthersWrongFalsely : Prop := dirOthersRow.holds Tryd.pinned (OpenSpec.ofChange dirOthersWrong)

/-- 'polderlaw16.DirAll': WHATEVER THE INPUT: true; the input reads as it did. -/
def dirAllSpec : ChangeSpec := { name := "dirAll", fn := fun _ => fun
  | [d1, d2] => { results := [.lit (.bool true)], args := [d1, d2] }
  | _ => none }
def dirAllRow : OpenClaim := { program := "ytbhofablndjeoaadoor", sum := "279de6d70a8a33616e43ff07468b1d22aa1457dd2b2f8f4a6bb447e5012f7f1e", func := "polder/polderlaw16.DirAll", spec := "dirAll", inPlace := ["internal/abi.NoEscape", "internal/bytealg.MakeNoZero", "internal/bytealg.IndexByteString", "internal/bytealg.IndexString"], unfollowed := true, recurses := true, named := ["unicode/utf8.first", "unicode/utf8.acceptRanges", "internal/bytealg.MaxLen"], apart := false, laid := [("unicode/utf8.acceptRanges", laid_unicode_utf8_acceptRanges), ("unicode/utf8.first", laid_unicode_utf8_first)] }
def DirAllSaid : Prop := dirAllRow.holds Tryd.pinned (OpenSpec.ofChange dirAllSpec)

/-- ITS FALSE NEIGHBOUR: 'it returns false'. Refute it at one input. -/
def dirAllWrong : ChangeSpec := { name := "dirAll", fn := fun _ => fun
  | [d1, d2] => { results := [.lit (.bool false)], args := [d1, d2] }
  | _ => none }
def DirAllWrongFalsely : Prop := dirAllRow.holds Tryd.pinned (OpenSpec.ofChange dirAllWrong)

/- THE SECOND FORM. 'bulk': how many values and letters a reading holds, each counted each time it is reached (what is shared counts as often as it is met; a slice's spare places count too). A statement '..UptoSaid' is the law's where the arguments, and the package variables that the reading takes, are together of bulk at most 1048576: NARROWER than '..Said'. Prove '..Said' where nothing that the law and all that it calls make is longer than what came in: it says more and counts as full. Else prove '..UptoSaid'. A law counts once. -/
mutual
def uptoBulk {H : Type} : DataW H → Nat
  | .lit (.string bytes) => bytes.length + 1
  | .lit _ => 1
  | .nil => 1
  | .ptr d => uptoBulk d + 1
  | .slice elems spare => uptoBulkAll elems + uptoBulkAll spare + 1
  | .agg parts => uptoBulkAll parts + 1
  | .iface _ d => uptoBulk d + 1
  | .map entries => uptoBulkEntries entries + 1
  | .held _ => 1
def uptoBulkAll {H : Type} : List (DataW H) → Nat
  | [] => 0
  | d :: r => uptoBulk d + uptoBulkAll r
def uptoBulkEntries {H : Type} : List (Lit × DataW H) → Nat
  | [] => 0
  | x :: r => uptoBulkEntry x + uptoBulkEntries r
def uptoBulkEntry {H : Type} : Lit × DataW H → Nat
  | (.string bytes, d) => bytes.length + uptoBulk d + 1
  | (_, d) => uptoBulk d + 1
 end
def uptoSmall : (H : Type) → List (DataW H) → Bool := fun _ ds => decide (uptoBulkAll ds ≤ 1048576)
def OpenSpec.upto (s : _root_.Go.ChangeSpec) : _root_.Go.OpenSpec := { _root_.Go.OpenSpec.ofChange s with cond := some uptoSmall }

/-- 'polderlaw14.TreeKeeps', WHERE WHAT IT READS IS OF BULK AT MOST 1048576: true; the input reads as it did. -/
def treeKeepsUptoRow : OpenClaim := { program := "ytbhofablndjeoaadoor", sum := "279de6d70a8a33616e43ff07468b1d22aa1457dd2b2f8f4a6bb447e5012f7f1e", func := "polder/polderlaw14.TreeKeeps", spec := "treeKeeps", inPlace := ["internal/abi.NoEscape", "internal/bytealg.MakeNoZero", "internal/bytealg.IndexByteString", "internal/bytealg.IndexString"], unfollowed := true, recurses := true, named := ["unicode/utf8.first", "unicode/utf8.acceptRanges", "internal/bytealg.MaxLen"], apart := false, laid := [("unicode/utf8.acceptRanges", laid_unicode_utf8_acceptRanges), ("unicode/utf8.first", laid_unicode_utf8_first)], narrowed := true }
def TreeKeepsUptoSaid : Prop := treeKeepsUptoRow.holds Tryd.pinned (OpenSpec.upto treeKeepsSpec)

/-- 'polderlaw14.TreeStops', WHERE WHAT IT READS IS OF BULK AT MOST 1048576: true; the input reads as it did. -/
def treeStopsUptoRow : OpenClaim := { program := "ytbhofablndjeoaadoor", sum := "279de6d70a8a33616e43ff07468b1d22aa1457dd2b2f8f4a6bb447e5012f7f1e", func := "polder/polderlaw14.TreeStops", spec := "treeStops", inPlace := ["internal/abi.NoEscape", "internal/bytealg.MakeNoZero", "internal/bytealg.IndexByteString", "internal/bytealg.IndexString"], unfollowed := true, recurses := true, named := ["unicode/utf8.first", "unicode/utf8.acceptRanges", "internal/bytealg.MaxLen"], apart := false, laid := [("unicode/utf8.acceptRanges", laid_unicode_utf8_acceptRanges), ("unicode/utf8.first", laid_unicode_utf8_first)], narrowed := true }
def TreeStopsUptoSaid : Prop := treeStopsUptoRow.holds Tryd.pinned (OpenSpec.upto treeStopsSpec)

/-- 'polderlaw14.TreeParts', WHERE WHAT IT READS IS OF BULK AT MOST 1048576: true; the input reads as it did. -/
def treePartsUptoRow : OpenClaim := { program := "ytbhofablndjeoaadoor", sum := "279de6d70a8a33616e43ff07468b1d22aa1457dd2b2f8f4a6bb447e5012f7f1e", func := "polder/polderlaw14.TreeParts", spec := "treeParts", inPlace := ["internal/abi.NoEscape", "internal/bytealg.MakeNoZero", "internal/bytealg.IndexByteString", "internal/bytealg.IndexString"], unfollowed := true, recurses := true, named := ["unicode/utf8.first", "unicode/utf8.acceptRanges", "internal/bytealg.MaxLen"], apart := false, laid := [("unicode/utf8.acceptRanges", laid_unicode_utf8_acceptRanges), ("unicode/utf8.first", laid_unicode_utf8_first)], narrowed := true }
def TreePartsUptoSaid : Prop := treePartsUptoRow.holds Tryd.pinned (OpenSpec.upto treePartsSpec)

/-- 'polderlaw14.TreeAll', WHERE WHAT IT READS IS OF BULK AT MOST 1048576: true; the input reads as it did. -/
def treeAllUptoRow : OpenClaim := { program := "ytbhofablndjeoaadoor", sum := "279de6d70a8a33616e43ff07468b1d22aa1457dd2b2f8f4a6bb447e5012f7f1e", func := "polder/polderlaw14.TreeAll", spec := "treeAll", inPlace := ["internal/abi.NoEscape", "internal/bytealg.MakeNoZero", "internal/bytealg.IndexByteString", "internal/bytealg.IndexString"], unfollowed := true, recurses := true, named := ["unicode/utf8.first", "unicode/utf8.acceptRanges", "internal/bytealg.MaxLen"], apart := false, laid := [("unicode/utf8.acceptRanges", laid_unicode_utf8_acceptRanges), ("unicode/utf8.first", laid_unicode_utf8_first)], narrowed := true }
def TreeAllUptoSaid : Prop := treeAllUptoRow.holds Tryd.pinned (OpenSpec.upto treeAllSpec)

/-- 'polderlaw16.DirOrder', WHERE WHAT IT READS IS OF BULK AT MOST 1048576: true; the input reads as it did. -/
def dirOrderUptoRow : OpenClaim := { program := "ytbhofablndjeoaadoor", sum := "279de6d70a8a33616e43ff07468b1d22aa1457dd2b2f8f4a6bb447e5012f7f1e", func := "polder/polderlaw16.DirOrder", spec := "dirOrder", inPlace := ["internal/abi.NoEscape", "internal/bytealg.MakeNoZero", "internal/bytealg.IndexByteString", "internal/bytealg.IndexString"], unfollowed := true, recurses := true, named := ["unicode/utf8.first", "unicode/utf8.acceptRanges", "internal/bytealg.MaxLen"], apart := false, laid := [("unicode/utf8.acceptRanges", laid_unicode_utf8_acceptRanges), ("unicode/utf8.first", laid_unicode_utf8_first)], narrowed := true }
def DirOrderUptoSaid : Prop := dirOrderUptoRow.holds Tryd.pinned (OpenSpec.upto dirOrderSpec)

/-- 'polderlaw16.DirPlays', WHERE WHAT IT READS IS OF BULK AT MOST 1048576: true; the input reads as it did. -/
def dirPlaysUptoRow : OpenClaim := { program := "ytbhofablndjeoaadoor", sum := "279de6d70a8a33616e43ff07468b1d22aa1457dd2b2f8f4a6bb447e5012f7f1e", func := "polder/polderlaw16.DirPlays", spec := "dirPlays", inPlace := ["internal/abi.NoEscape", "internal/bytealg.MakeNoZero", "internal/bytealg.IndexByteString", "internal/bytealg.IndexString"], unfollowed := true, recurses := true, named := ["unicode/utf8.first", "unicode/utf8.acceptRanges", "internal/bytealg.MaxLen"], apart := false, laid := [("unicode/utf8.acceptRanges", laid_unicode_utf8_acceptRanges), ("unicode/utf8.first", laid_unicode_utf8_first)], narrowed := true }
def DirPlaysUptoSaid : Prop := dirPlaysUptoRow.holds Tryd.pinned (OpenSpec.upto dirPlaysSpec)

/-- 'polderlaw16.DirOthers', WHERE WHAT IT READS IS OF BULK AT MOST 1048576: true; the input reads as it did. -/
def dirOthersUptoRow : OpenClaim := { program := "ytbhofablndjeoaadoor", sum := "279de6d70a8a33616e43ff07468b1d22aa1457dd2b2f8f4a6bb447e5012f7f1e", func := "polder/polderlaw16.DirOthers", spec := "dirOthers", inPlace := ["internal/abi.NoEscape", "internal/bytealg.MakeNoZero", "internal/bytealg.IndexByteString", "internal/bytealg.IndexString"], unfollowed := true, recurses := true, named := ["unicode/utf8.first", "unicode/utf8.acceptRanges", "internal/bytealg.MaxLen"], apart := false, laid := [("unicode/utf8.acceptRanges", laid_unicode_utf8_acceptRanges), ("unicode/utf8.first", laid_unicode_utf8_first)], narrowed := true }
def DirOthersUptoSaid : Prop := dirOthersUptoRow.holds Tryd.pinned (OpenSpec.upto dirOthersSpec)

/-- 'polderlaw16.DirAll', WHERE WHAT IT READS IS OF BULK AT MOST 1048576: true; the input reads as it did. -/
def dirAllUptoRow : OpenClaim := { program := "ytbhofablndjeoaadoor", sum := "279de6d70a8a33616e43ff07468b1d22aa1457dd2b2f8f4a6bb447e5012f7f1e", func := "polder/polderlaw16.DirAll", spec := "dirAll", inPlace := ["internal/abi.NoEscape", "internal/bytealg.MakeNoZero", "internal/bytealg.IndexByteString", "internal/bytealg.IndexString"], unfollowed := true, recurses := true, named := ["unicode/utf8.first", "unicode/utf8.acceptRanges", "internal/bytealg.MaxLen"], apart := false, laid := [("unicode/utf8.acceptRanges", laid_unicode_utf8_acceptRanges), ("unicode/utf8.first", laid_unicode_utf8_first)], narrowed := true }
def DirAllUptoSaid : Prop := dirAllUptoRow.holds Tryd.pinned (OpenSpec.upto dirAllSpec)

end Rows
end Go.Proofs.YtbhofablndjeoaaDoor
