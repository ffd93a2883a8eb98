/-
  DERIVED. GIVEN WITH THE SEED: THE CARDS: each row of YtepmcdopccflgaaGreatDoorRows.lean that lists a variable, with what it lists TIED to the program's text (the seventh form; the later family's looks); each row that meets fmt, with fmt's text TOLD by the authors' own Lean function (tested against real Go, not proved from fmt's source: count such statements apart). THE CARD IS WHAT COUNTS. Prove the row's statement (the work); the ties are given (YtepmcdopccflgaaGreatDoorTie.lean); close each card by the builder's one call (the guide's Derived/Test/ToyasCard.lean, 'card_holds'). Laid BY PROGRAM, IN A SANDBOX (cutbox-door.mjs). By AI agents, Wed Nov 11 2026. No macro, syntax, notation, axiom, sorry.
-/
import Derived.Test.YtepmcdopccflgaaGreatDoorRows
import GoSem.ClaimSeven
namespace Go.Proofs.YtepmcdopccflgaaGreatDoor
namespace Rows

/-- THE TIED CARD OF 'polderlaw20.PoolGuards'. -/
def poolGuardsCard : Claim7 := { stood := { row := poolGuardsRow, standIns := [], harness := (true, "8132d5d1e36e9313f3e8cd7ee3f6b90765d2f42e94d028c8fcb467e436ba6a49"), looks := true }, kinds := [], alts := [], laidByText := true, laidKinds := [.data, .pinned], laidTests := true, laidLooks := .later }
def PoolGuardsCardSaid : Prop := Claim7.holds Tryz.pinned (.plain (OpenSpec.ofChange poolGuardsSpec)) poolGuardsCard

/-- THE TIED CARD OF 'polderlaw20.PoolOne'. -/
def poolOneCard : Claim7 := { stood := { row := poolOneRow, standIns := [], harness := (true, "8132d5d1e36e9313f3e8cd7ee3f6b90765d2f42e94d028c8fcb467e436ba6a49"), looks := true }, kinds := [], alts := [], laidByText := true, laidKinds := [.data, .pinned], laidTests := true, laidLooks := .later }
def PoolOneCardSaid : Prop := Claim7.holds Tryz.pinned (.plain (OpenSpec.ofChange poolOneSpec)) poolOneCard

/-- THE TIED CARD OF 'polderlaw20.PoolReach'. -/
def poolReachCard : Claim7 := { stood := { row := poolReachRow, standIns := [], harness := (true, "8132d5d1e36e9313f3e8cd7ee3f6b90765d2f42e94d028c8fcb467e436ba6a49"), looks := true }, kinds := [], alts := [], laidByText := true, laidKinds := [.data, .pinned], laidTests := true, laidLooks := .later }
def PoolReachCardSaid : Prop := Claim7.holds Tryz.pinned (.plain (OpenSpec.ofChange poolReachSpec)) poolReachCard

/-- THE TIED CARD OF 'polderlaw20.PoolDrops'. -/
def poolDropsCard : Claim7 := { stood := { row := poolDropsRow, standIns := [], harness := (true, "8132d5d1e36e9313f3e8cd7ee3f6b90765d2f42e94d028c8fcb467e436ba6a49"), looks := true }, kinds := [], alts := [], laidByText := true, laidKinds := [.data, .pinned], laidTests := true, laidLooks := .later }
def PoolDropsCardSaid : Prop := Claim7.holds Tryz.pinned (.plain (OpenSpec.ofChange poolDropsSpec)) poolDropsCard

/-- THE TIED CARD OF 'polderlaw20.PoolTwice'. -/
def poolTwiceCard : Claim7 := { stood := { row := poolTwiceRow, standIns := [], harness := (true, "8132d5d1e36e9313f3e8cd7ee3f6b90765d2f42e94d028c8fcb467e436ba6a49"), looks := true }, kinds := [], alts := [], laidByText := true, laidKinds := [.data, .pinned], laidTests := true, laidLooks := .later }
def PoolTwiceCardSaid : Prop := Claim7.holds Tryz.pinned (.plain (OpenSpec.ofChange poolTwiceSpec)) poolTwiceCard

/-- THE TIED CARD OF 'polderlaw20.PoolBack'. -/
def poolBackCard : Claim7 := { stood := { row := poolBackRow, standIns := [], harness := (true, "8132d5d1e36e9313f3e8cd7ee3f6b90765d2f42e94d028c8fcb467e436ba6a49"), looks := true }, kinds := [], alts := [], laidByText := true, laidKinds := [.data, .pinned], laidTests := true, laidLooks := .later }
def PoolBackCardSaid : Prop := Claim7.holds Tryz.pinned (.plain (OpenSpec.ofChange poolBackSpec)) poolBackCard

/-- THE TIED CARD OF 'polderlaw20.PoolVanish'. -/
def poolVanishCard : Claim7 := { stood := { row := poolVanishRow, standIns := [], harness := (true, "8132d5d1e36e9313f3e8cd7ee3f6b90765d2f42e94d028c8fcb467e436ba6a49"), looks := true }, kinds := [], alts := [], laidByText := true, laidKinds := [.data, .pinned], laidTests := true, laidLooks := .later }
def PoolVanishCardSaid : Prop := Claim7.holds Tryz.pinned (.plain (OpenSpec.ofChange poolVanishSpec)) poolVanishCard

/-- THE SECOND FORM's CARD OF 'polderlaw20.PoolGuards'. -/
def poolGuardsUptoCard : Claim7 := { stood := { row := poolGuardsUptoRow, standIns := [], harness := (true, "8132d5d1e36e9313f3e8cd7ee3f6b90765d2f42e94d028c8fcb467e436ba6a49"), looks := true }, kinds := [], alts := [], laidByText := true, laidKinds := [.data, .pinned], laidTests := true, laidLooks := .later }
def PoolGuardsUptoCardSaid : Prop := Claim7.holds Tryz.pinned (.plain (OpenSpec.upto poolGuardsSpec)) poolGuardsUptoCard

/-- THE SECOND FORM's CARD OF 'polderlaw20.PoolOne'. -/
def poolOneUptoCard : Claim7 := { stood := { row := poolOneUptoRow, standIns := [], harness := (true, "8132d5d1e36e9313f3e8cd7ee3f6b90765d2f42e94d028c8fcb467e436ba6a49"), looks := true }, kinds := [], alts := [], laidByText := true, laidKinds := [.data, .pinned], laidTests := true, laidLooks := .later }
def PoolOneUptoCardSaid : Prop := Claim7.holds Tryz.pinned (.plain (OpenSpec.upto poolOneSpec)) poolOneUptoCard

/-- THE SECOND FORM's CARD OF 'polderlaw20.PoolReach'. -/
def poolReachUptoCard : Claim7 := { stood := { row := poolReachUptoRow, standIns := [], harness := (true, "8132d5d1e36e9313f3e8cd7ee3f6b90765d2f42e94d028c8fcb467e436ba6a49"), looks := true }, kinds := [], alts := [], laidByText := true, laidKinds := [.data, .pinned], laidTests := true, laidLooks := .later }
def PoolReachUptoCardSaid : Prop := Claim7.holds Tryz.pinned (.plain (OpenSpec.upto poolReachSpec)) poolReachUptoCard

/-- THE SECOND FORM's CARD OF 'polderlaw20.PoolDrops'. -/
def poolDropsUptoCard : Claim7 := { stood := { row := poolDropsUptoRow, standIns := [], harness := (true, "8132d5d1e36e9313f3e8cd7ee3f6b90765d2f42e94d028c8fcb467e436ba6a49"), looks := true }, kinds := [], alts := [], laidByText := true, laidKinds := [.data, .pinned], laidTests := true, laidLooks := .later }
def PoolDropsUptoCardSaid : Prop := Claim7.holds Tryz.pinned (.plain (OpenSpec.upto poolDropsSpec)) poolDropsUptoCard

/-- THE SECOND FORM's CARD OF 'polderlaw20.PoolTwice'. -/
def poolTwiceUptoCard : Claim7 := { stood := { row := poolTwiceUptoRow, standIns := [], harness := (true, "8132d5d1e36e9313f3e8cd7ee3f6b90765d2f42e94d028c8fcb467e436ba6a49"), looks := true }, kinds := [], alts := [], laidByText := true, laidKinds := [.data, .pinned], laidTests := true, laidLooks := .later }
def PoolTwiceUptoCardSaid : Prop := Claim7.holds Tryz.pinned (.plain (OpenSpec.upto poolTwiceSpec)) poolTwiceUptoCard

/-- THE SECOND FORM's CARD OF 'polderlaw20.PoolBack'. -/
def poolBackUptoCard : Claim7 := { stood := { row := poolBackUptoRow, standIns := [], harness := (true, "8132d5d1e36e9313f3e8cd7ee3f6b90765d2f42e94d028c8fcb467e436ba6a49"), looks := true }, kinds := [], alts := [], laidByText := true, laidKinds := [.data, .pinned], laidTests := true, laidLooks := .later }
def PoolBackUptoCardSaid : Prop := Claim7.holds Tryz.pinned (.plain (OpenSpec.upto poolBackSpec)) poolBackUptoCard

/-- THE SECOND FORM's CARD OF 'polderlaw20.PoolVanish'. -/
def poolVanishUptoCard : Claim7 := { stood := { row := poolVanishUptoRow, standIns := [], harness := (true, "8132d5d1e36e9313f3e8cd7ee3f6b90765d2f42e94d028c8fcb467e436ba6a49"), looks := true }, kinds := [], alts := [], laidByText := true, laidKinds := [.data, .pinned], laidTests := true, laidLooks := .later }
def PoolVanishUptoCardSaid : Prop := Claim7.holds Tryz.pinned (.plain (OpenSpec.upto poolVanishSpec)) poolVanishUptoCard
end Rows
end Go.Proofs.YtepmcdopccflgaaGreatDoor
