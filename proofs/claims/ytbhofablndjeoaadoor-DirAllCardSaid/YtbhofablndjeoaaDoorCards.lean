/-
  DERIVED. GIVEN WITH THE SEED: THE CARDS: each row of YtbhofablndjeoaaDoorRows.lean that lists a variable, with what it lists TIED to the program's text (the seventh form; the later family's looks); each row that meets fmt, with fmt's text TOLD by the authors' own Lean function (tested against real Go, not proved from fmt's source: count such statements apart). THE CARD IS WHAT COUNTS. Prove the row's statement (the work); the ties are given (YtbhofablndjeoaaDoorTie.lean); close each card by the builder's one call (the guide's Derived/Test/ToyasCard.lean, 'card_holds'). Laid BY PROGRAM, IN A SANDBOX (cutbox-door.mjs). By AI agents, Wed Nov 11 2026. No macro, syntax, notation, axiom, sorry.
-/
import Derived.Test.YtbhofablndjeoaaDoorRows
import GoSem.ClaimSeven
namespace Go.Proofs.YtbhofablndjeoaaDoor
namespace Rows

/-- THE TIED CARD OF 'polderlaw14.TreeKeeps'. -/
def treeKeepsCard : Claim7 := { stood := { row := treeKeepsRow, standIns := [], harness := (true, "3afbb442fbd86179107d21309d16641801dcbaf1b6feedb220c3016ba2e1f688"), looks := true }, kinds := [], alts := [], laidByText := true, laidKinds := [.data, .pinned], laidTests := true, laidLooks := .later }
def TreeKeepsCardSaid : Prop := Claim7.holds Tryd.pinned (.plain (OpenSpec.ofChange treeKeepsSpec)) treeKeepsCard

/-- THE TIED CARD OF 'polderlaw14.TreeStops'. -/
def treeStopsCard : Claim7 := { stood := { row := treeStopsRow, standIns := [], harness := (true, "3afbb442fbd86179107d21309d16641801dcbaf1b6feedb220c3016ba2e1f688"), looks := true }, kinds := [], alts := [], laidByText := true, laidKinds := [.data, .pinned], laidTests := true, laidLooks := .later }
def TreeStopsCardSaid : Prop := Claim7.holds Tryd.pinned (.plain (OpenSpec.ofChange treeStopsSpec)) treeStopsCard

/-- THE TIED CARD OF 'polderlaw14.TreeParts'. -/
def treePartsCard : Claim7 := { stood := { row := treePartsRow, standIns := [], harness := (true, "3afbb442fbd86179107d21309d16641801dcbaf1b6feedb220c3016ba2e1f688"), looks := true }, kinds := [], alts := [], laidByText := true, laidKinds := [.data, .pinned], laidTests := true, laidLooks := .later }
def TreePartsCardSaid : Prop := Claim7.holds Tryd.pinned (.plain (OpenSpec.ofChange treePartsSpec)) treePartsCard

/-- THE TIED CARD OF 'polderlaw14.TreeAll'. -/
def treeAllCard : Claim7 := { stood := { row := treeAllRow, standIns := [], harness := (true, "3afbb442fbd86179107d21309d16641801dcbaf1b6feedb220c3016ba2e1f688"), looks := true }, kinds := [], alts := [], laidByText := true, laidKinds := [.data, .pinned], laidTests := true, laidLooks := .later }
def TreeAllCardSaid : Prop := Claim7.holds Tryd.pinned (.plain (OpenSpec.ofChange treeAllSpec)) treeAllCard

/-- THE TIED CARD OF 'polderlaw16.DirOrder'. -/
def dirOrderCard : Claim7 := { stood := { row := dirOrderRow, standIns := [], harness := (true, "3afbb442fbd86179107d21309d16641801dcbaf1b6feedb220c3016ba2e1f688"), looks := true }, kinds := [], alts := [], laidByText := true, laidKinds := [.data, .pinned], laidTests := true, laidLooks := .later }
def DirOrderCardSaid : Prop := Claim7.holds Tryd.pinned (.plain (OpenSpec.ofChange dirOrderSpec)) dirOrderCard

/-- THE TIED CARD OF 'polderlaw16.DirPlays'. -/
def dirPlaysCard : Claim7 := { stood := { row := dirPlaysRow, standIns := [], harness := (true, "3afbb442fbd86179107d21309d16641801dcbaf1b6feedb220c3016ba2e1f688"), looks := true }, kinds := [], alts := [], laidByText := true, laidKinds := [.data, .pinned], laidTests := true, laidLooks := .later }
def DirPlaysCardSaid : Prop := Claim7.holds Tryd.pinned (.plain (OpenSpec.ofChange dirPlaysSpec)) dirPlaysCard

/-- THE TIED CARD OF 'polderlaw16.DirOthers'. -/
def dirOthersCard : Claim7 := { stood := { row := dirOthersRow, standIns := [], harness := (true, "3afbb442fbd86179107d21309d16641801dcbaf1b6feedb220c3016ba2e1f688"), looks := true }, kinds := [], alts := [], laidByText := true, laidKinds := [.data, .pinned], laidTests := true, laidLooks := .later }
def DirOthersCardSaid : Prop := Claim7.holds Tryd.pinned (.plain (OpenSpec.ofChange dirOthersSpec)) dirOthersCard

/-- THE TIED CARD OF 'polderlaw16.DirAll'. -/
def dirAllCard : Claim7 := { stood := { row := dirAllRow, standIns := [], harness := (true, "3afbb442fbd86179107d21309d16641801dcbaf1b6feedb220c3016ba2e1f688"), looks := true }, kinds := [], alts := [], laidByText := true, laidKinds := [.data, .pinned], laidTests := true, laidLooks := .later }
def DirAllCardSaid : Prop := Claim7.holds Tryd.pinned (.plain (OpenSpec.ofChange dirAllSpec)) dirAllCard

/-- THE SECOND FORM's CARD OF 'polderlaw14.TreeKeeps'. -/
def treeKeepsUptoCard : Claim7 := { stood := { row := treeKeepsUptoRow, standIns := [], harness := (true, "3afbb442fbd86179107d21309d16641801dcbaf1b6feedb220c3016ba2e1f688"), looks := true }, kinds := [], alts := [], laidByText := true, laidKinds := [.data, .pinned], laidTests := true, laidLooks := .later }
def TreeKeepsUptoCardSaid : Prop := Claim7.holds Tryd.pinned (.plain (OpenSpec.upto treeKeepsSpec)) treeKeepsUptoCard

/-- THE SECOND FORM's CARD OF 'polderlaw14.TreeStops'. -/
def treeStopsUptoCard : Claim7 := { stood := { row := treeStopsUptoRow, standIns := [], harness := (true, "3afbb442fbd86179107d21309d16641801dcbaf1b6feedb220c3016ba2e1f688"), looks := true }, kinds := [], alts := [], laidByText := true, laidKinds := [.data, .pinned], laidTests := true, laidLooks := .later }
def TreeStopsUptoCardSaid : Prop := Claim7.holds Tryd.pinned (.plain (OpenSpec.upto treeStopsSpec)) treeStopsUptoCard

/-- THE SECOND FORM's CARD OF 'polderlaw14.TreeParts'. -/
def treePartsUptoCard : Claim7 := { stood := { row := treePartsUptoRow, standIns := [], harness := (true, "3afbb442fbd86179107d21309d16641801dcbaf1b6feedb220c3016ba2e1f688"), looks := true }, kinds := [], alts := [], laidByText := true, laidKinds := [.data, .pinned], laidTests := true, laidLooks := .later }
def TreePartsUptoCardSaid : Prop := Claim7.holds Tryd.pinned (.plain (OpenSpec.upto treePartsSpec)) treePartsUptoCard

/-- THE SECOND FORM's CARD OF 'polderlaw14.TreeAll'. -/
def treeAllUptoCard : Claim7 := { stood := { row := treeAllUptoRow, standIns := [], harness := (true, "3afbb442fbd86179107d21309d16641801dcbaf1b6feedb220c3016ba2e1f688"), looks := true }, kinds := [], alts := [], laidByText := true, laidKinds := [.data, .pinned], laidTests := true, laidLooks := .later }
def TreeAllUptoCardSaid : Prop := Claim7.holds Tryd.pinned (.plain (OpenSpec.upto treeAllSpec)) treeAllUptoCard

/-- THE SECOND FORM's CARD OF 'polderlaw16.DirOrder'. -/
def dirOrderUptoCard : Claim7 := { stood := { row := dirOrderUptoRow, standIns := [], harness := (true, "3afbb442fbd86179107d21309d16641801dcbaf1b6feedb220c3016ba2e1f688"), looks := true }, kinds := [], alts := [], laidByText := true, laidKinds := [.data, .pinned], laidTests := true, laidLooks := .later }
def DirOrderUptoCardSaid : Prop := Claim7.holds Tryd.pinned (.plain (OpenSpec.upto dirOrderSpec)) dirOrderUptoCard

/-- THE SECOND FORM's CARD OF 'polderlaw16.DirPlays'. -/
def dirPlaysUptoCard : Claim7 := { stood := { row := dirPlaysUptoRow, standIns := [], harness := (true, "3afbb442fbd86179107d21309d16641801dcbaf1b6feedb220c3016ba2e1f688"), looks := true }, kinds := [], alts := [], laidByText := true, laidKinds := [.data, .pinned], laidTests := true, laidLooks := .later }
def DirPlaysUptoCardSaid : Prop := Claim7.holds Tryd.pinned (.plain (OpenSpec.upto dirPlaysSpec)) dirPlaysUptoCard

/-- THE SECOND FORM's CARD OF 'polderlaw16.DirOthers'. -/
def dirOthersUptoCard : Claim7 := { stood := { row := dirOthersUptoRow, standIns := [], harness := (true, "3afbb442fbd86179107d21309d16641801dcbaf1b6feedb220c3016ba2e1f688"), looks := true }, kinds := [], alts := [], laidByText := true, laidKinds := [.data, .pinned], laidTests := true, laidLooks := .later }
def DirOthersUptoCardSaid : Prop := Claim7.holds Tryd.pinned (.plain (OpenSpec.upto dirOthersSpec)) dirOthersUptoCard

/-- THE SECOND FORM's CARD OF 'polderlaw16.DirAll'. -/
def dirAllUptoCard : Claim7 := { stood := { row := dirAllUptoRow, standIns := [], harness := (true, "3afbb442fbd86179107d21309d16641801dcbaf1b6feedb220c3016ba2e1f688"), looks := true }, kinds := [], alts := [], laidByText := true, laidKinds := [.data, .pinned], laidTests := true, laidLooks := .later }
def DirAllUptoCardSaid : Prop := Claim7.holds Tryd.pinned (.plain (OpenSpec.upto dirAllSpec)) dirAllUptoCard
end Rows
end Go.Proofs.YtbhofablndjeoaaDoor
