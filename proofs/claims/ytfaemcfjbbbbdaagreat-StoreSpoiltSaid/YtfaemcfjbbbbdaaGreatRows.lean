/-
  No cell of these rows narrows 'for every input' (looked for: loops, veiled, ifaces, maps, wideKeys, modest, calm, conditions, laid).
  DERIVED. THE GIVEN ROWS OF THIS SEAT. 4 by the template 'for every input the law returns true; each argument reads behind the call as it read before'; 0 by the template 'total and deterministic' (their statements: YtfaemcfjbbbbdaaGreatTotals.lean).
  GIVEN WITH THE SEED: the statements are not yours to turn. If you find one false, say at which input.
  Laid BY PROGRAM, IN A SANDBOX (cutbox-rows.mjs): the forced cells as the released guide's own fill.sh prints them over the translation 70ffa879b0343a27… (all of the seat's roots in one cut). By AI agents, Wed Nov 11 2026. No macro, syntax, notation, axiom, sorry.
-/
import Derived.Test.YtfaemcfjbbbbdaaGreatChecked
import GoSem.Claim
import GoSem.ClaimJoined
import GoSem.ClaimMapViews
import Derived.JoinedTies
import Derived.KernelRfl
namespace Go.Proofs.YtfaemcfjbbbbdaaGreat
/- THE CELL 'sum', in the pinned program and in every row, IS THE sha256 OF THE DUMP (.gsa) THAT YtfaemcfjbbbbdaaGreatProg.lean LOADS. Nothing in Lean hashes anything: it is a label: what it is worth is what the hold of that sum in a sandbox is worth. -/
noncomputable def Tryz.pinned : Pinned := { name := "ytfaemcfjbbbbdaagreat", sum := "70ffa879b0343a27317506587c97b52d16cf51e1e6d8e13b7233f4d08b412357", checked := Tryz.checked }
namespace Rows
def none {H : Type} : Left H := { results := [], args := [] }

/-- 'polderlaw15.StoreOne': WHATEVER THE INPUT: true; the input reads as it did. -/
def storeOneSpec : ChangeSpec := { name := "storeOne", fn := fun _ => fun
  | [d1, d2, d3, d4] => { results := [.lit (.bool true)], args := [d1, d2, d3, d4] }
  | _ => none }
def storeOneRow : OpenClaim := { program := "ytfaemcfjbbbbdaagreat", sum := "70ffa879b0343a27317506587c97b52d16cf51e1e6d8e13b7233f4d08b412357", func := "polder/polderlaw15.StoreOne", spec := "storeOne", inPlace := ["internal/abi.NoEscape", "internal/bytealg.MakeNoZero"], unfollowed := true, recurses := true, apart := false }
def StoreOneSaid : Prop := storeOneRow.holds Tryz.pinned (OpenSpec.ofChange storeOneSpec)

/-- ITS FALSE NEIGHBOUR: 'it returns false'. Refute it at one input. -/
def storeOneWrong : ChangeSpec := { name := "storeOne", fn := fun _ => fun
  | [d1, d2, d3, d4] => { results := [.lit (.bool false)], args := [d1, d2, d3, d4] }
  | _ => none }
def StoreOneWrongFalsely : Prop := storeOneRow.holds Tryz.pinned (OpenSpec.ofChange storeOneWrong)

/-- 'polderlaw15.StoreBack': WHATEVER THE INPUT: true; the input reads as it did. -/
def storeBackSpec : ChangeSpec := { name := "storeBack", fn := fun _ => fun
  | [d1, d2, d3] => { results := [.lit (.bool true)], args := [d1, d2, d3] }
  | _ => none }
def storeBackRow : OpenClaim := { program := "ytfaemcfjbbbbdaagreat", sum := "70ffa879b0343a27317506587c97b52d16cf51e1e6d8e13b7233f4d08b412357", func := "polder/polderlaw15.StoreBack", spec := "storeBack", inPlace := ["internal/abi.NoEscape", "internal/bytealg.MakeNoZero"], unfollowed := true, recurses := true, apart := false }
def StoreBackSaid : Prop := storeBackRow.holds Tryz.pinned (OpenSpec.ofChange storeBackSpec)

/-- ITS FALSE NEIGHBOUR: 'it returns false'. Refute it at one input. -/
def storeBackWrong : ChangeSpec := { name := "storeBack", fn := fun _ => fun
  | [d1, d2, d3] => { results := [.lit (.bool false)], args := [d1, d2, d3] }
  | _ => none }
def StoreBackWrongFalsely : Prop := storeBackRow.holds Tryz.pinned (OpenSpec.ofChange storeBackWrong)

/-- 'polderlaw15.StoreDitto': WHATEVER THE INPUT: true; the input reads as it did. -/
def storeDittoSpec : ChangeSpec := { name := "storeDitto", fn := fun _ => fun
  | [d1, d2, d3, d4] => { results := [.lit (.bool true)], args := [d1, d2, d3, d4] }
  | _ => none }
def storeDittoRow : OpenClaim := { program := "ytfaemcfjbbbbdaagreat", sum := "70ffa879b0343a27317506587c97b52d16cf51e1e6d8e13b7233f4d08b412357", func := "polder/polderlaw15.StoreDitto", spec := "storeDitto", inPlace := ["internal/abi.NoEscape", "internal/bytealg.MakeNoZero"], unfollowed := true, recurses := true, apart := false }
def StoreDittoSaid : Prop := storeDittoRow.holds Tryz.pinned (OpenSpec.ofChange storeDittoSpec)

/-- ITS FALSE NEIGHBOUR: 'it returns false'. Refute it at one input. -/
def storeDittoWrong : ChangeSpec := { name := "storeDitto", fn := fun _ => fun
  | [d1, d2, d3, d4] => { results := [.lit (.bool false)], args := [d1, d2, d3, d4] }
  | _ => none }
def StoreDittoWrongFalsely : Prop := storeDittoRow.holds Tryz.pinned (OpenSpec.ofChange storeDittoWrong)

/-- 'polderlaw15.StoreSpoilt': WHATEVER THE INPUT: true; the input reads as it did. -/
def storeSpoiltSpec : ChangeSpec := { name := "storeSpoilt", fn := fun _ => fun
  | [d1, d2, d3, d4, d5, d6] => { results := [.lit (.bool true)], args := [d1, d2, d3, d4, d5, d6] }
  | _ => none }
def storeSpoiltRow : OpenClaim := { program := "ytfaemcfjbbbbdaagreat", sum := "70ffa879b0343a27317506587c97b52d16cf51e1e6d8e13b7233f4d08b412357", func := "polder/polderlaw15.StoreSpoilt", spec := "storeSpoilt", inPlace := ["internal/abi.NoEscape", "internal/bytealg.MakeNoZero"], unfollowed := true, recurses := true, apart := false }
def StoreSpoiltSaid : Prop := storeSpoiltRow.holds Tryz.pinned (OpenSpec.ofChange storeSpoiltSpec)

/-- ITS FALSE NEIGHBOUR: 'it returns false'. Refute it at one input. -/
def storeSpoiltWrong : ChangeSpec := { name := "storeSpoilt", fn := fun _ => fun
  | [d1, d2, d3, d4, d5, d6] => { results := [.lit (.bool false)], args := [d1, d2, d3, d4, d5, d6] }
  | _ => none }
def StoreSpoiltWrongFalsely : Prop := storeSpoiltRow.holds Tryz.pinned (OpenSpec.ofChange storeSpoiltWrong)

/- THE SECOND FORM. 'bulk': how many values and letters a reading holds, each counted each time it is reached (what is shared counts as often as it is met; a slice's spare places count too). A statement '..UptoSaid' is the law's where the arguments, and the package variables that the reading takes, are together of bulk at most 1048576: NARROWER than '..Said'. Prove '..Said' where nothing that the law and all that it calls make is longer than what came in: it says more and counts as full. Else prove '..UptoSaid'. A law counts once. -/
mutual
def uptoBulk {H : Type} : DataW H → Nat
  | .lit (.string bytes) => bytes.length + 1
  | .lit _ => 1
  | .nil => 1
  | .ptr d => uptoBulk d + 1
  | .slice elems spare => uptoBulkAll elems + uptoBulkAll spare + 1
  | .agg parts => uptoBulkAll parts + 1
  | .iface _ d => uptoBulk d + 1
  | .map entries => uptoBulkEntries entries + 1
  | .held _ => 1
def uptoBulkAll {H : Type} : List (DataW H) → Nat
  | [] => 0
  | d :: r => uptoBulk d + uptoBulkAll r
def uptoBulkEntries {H : Type} : List (Lit × DataW H) → Nat
  | [] => 0
  | x :: r => uptoBulkEntry x + uptoBulkEntries r
def uptoBulkEntry {H : Type} : Lit × DataW H → Nat
  | (.string bytes, d) => bytes.length + uptoBulk d + 1
  | (_, d) => uptoBulk d + 1
 end
def uptoSmall : (H : Type) → List (DataW H) → Bool := fun _ ds => decide (uptoBulkAll ds ≤ 1048576)
def OpenSpec.upto (s : _root_.Go.ChangeSpec) : _root_.Go.OpenSpec := { _root_.Go.OpenSpec.ofChange s with cond := some uptoSmall }

/-- 'polderlaw15.StoreOne', WHERE WHAT IT READS IS OF BULK AT MOST 1048576: true; the input reads as it did. -/
def storeOneUptoRow : OpenClaim := { program := "ytfaemcfjbbbbdaagreat", sum := "70ffa879b0343a27317506587c97b52d16cf51e1e6d8e13b7233f4d08b412357", func := "polder/polderlaw15.StoreOne", spec := "storeOne", inPlace := ["internal/abi.NoEscape", "internal/bytealg.MakeNoZero"], unfollowed := true, recurses := true, apart := false, narrowed := true }
def StoreOneUptoSaid : Prop := storeOneUptoRow.holds Tryz.pinned (OpenSpec.upto storeOneSpec)

/-- 'polderlaw15.StoreBack', WHERE WHAT IT READS IS OF BULK AT MOST 1048576: true; the input reads as it did. -/
def storeBackUptoRow : OpenClaim := { program := "ytfaemcfjbbbbdaagreat", sum := "70ffa879b0343a27317506587c97b52d16cf51e1e6d8e13b7233f4d08b412357", func := "polder/polderlaw15.StoreBack", spec := "storeBack", inPlace := ["internal/abi.NoEscape", "internal/bytealg.MakeNoZero"], unfollowed := true, recurses := true, apart := false, narrowed := true }
def StoreBackUptoSaid : Prop := storeBackUptoRow.holds Tryz.pinned (OpenSpec.upto storeBackSpec)

/-- 'polderlaw15.StoreDitto', WHERE WHAT IT READS IS OF BULK AT MOST 1048576: true; the input reads as it did. -/
def storeDittoUptoRow : OpenClaim := { program := "ytfaemcfjbbbbdaagreat", sum := "70ffa879b0343a27317506587c97b52d16cf51e1e6d8e13b7233f4d08b412357", func := "polder/polderlaw15.StoreDitto", spec := "storeDitto", inPlace := ["internal/abi.NoEscape", "internal/bytealg.MakeNoZero"], unfollowed := true, recurses := true, apart := false, narrowed := true }
def StoreDittoUptoSaid : Prop := storeDittoUptoRow.holds Tryz.pinned (OpenSpec.upto storeDittoSpec)

/-- 'polderlaw15.StoreSpoilt', WHERE WHAT IT READS IS OF BULK AT MOST 1048576: true; the input reads as it did. -/
def storeSpoiltUptoRow : OpenClaim := { program := "ytfaemcfjbbbbdaagreat", sum := "70ffa879b0343a27317506587c97b52d16cf51e1e6d8e13b7233f4d08b412357", func := "polder/polderlaw15.StoreSpoilt", spec := "storeSpoilt", inPlace := ["internal/abi.NoEscape", "internal/bytealg.MakeNoZero"], unfollowed := true, recurses := true, apart := false, narrowed := true }
def StoreSpoiltUptoSaid : Prop := storeSpoiltUptoRow.holds Tryz.pinned (OpenSpec.upto storeSpoiltSpec)

end Rows
end Go.Proofs.YtfaemcfjbbbbdaaGreat
