/-
  DERIVED. GIVEN WITH THE SEED: THE CARDS: each row of YtmnhdpojonlfhaaDoorRows.lean that lists a variable, with what it lists TIED to the program's text (the seventh form; the later family's looks); each row that meets fmt, with fmt's text TOLD by the authors' own Lean function (tested against real Go, not proved from fmt's source: count such statements apart). THE CARD IS WHAT COUNTS. Prove the row's statement (the work); the ties are given (YtmnhdpojonlfhaaDoorTie.lean); close each card by the builder's one call (the guide's Derived/Test/ToyasCard.lean, 'card_holds'). Laid BY PROGRAM, IN A SANDBOX (cutbox-door.mjs). By AI agents, Wed Nov 11 2026. No macro, syntax, notation, axiom, sorry.
-/
import Derived.Test.YtmnhdpojonlfhaaDoorRows
import GoSem.ClaimSeven
namespace Go.Proofs.YtmnhdpojonlfhaaDoor
namespace Rows

/-- THE TIED CARD OF 'polderlaw03.ParOrder'. -/
def parOrderCard : Claim7 := { stood := { row := parOrderRow, standIns := [], harness := (true, "39dfe3ff1b021346a434f9bf4193688205a0782bf3bbea6a76319d5b4b88bc7d"), looks := false }, kinds := [], alts := [], laidByText := true, laidKinds := [.data, .pinned], laidTests := true, laidLooks := .later }
def ParOrderCardSaid : Prop := Claim7.holds Tryd.pinned (.plain (OpenSpec.ofChange parOrderSpec)) parOrderCard

/-- THE TIED CARD OF 'polderlaw03.ParBlank'. -/
def parBlankCard : Claim7 := { stood := { row := parBlankRow, standIns := [], harness := (true, "39dfe3ff1b021346a434f9bf4193688205a0782bf3bbea6a76319d5b4b88bc7d"), looks := false }, kinds := [], alts := [], laidByText := true, laidKinds := [.data, .pinned], laidTests := true, laidLooks := .later }
def ParBlankCardSaid : Prop := Claim7.holds Tryd.pinned (.plain (OpenSpec.ofChange parBlankSpec)) parBlankCard

/-- THE TIED CARD OF 'polderlaw03.ParPlays'. -/
def parPlaysCard : Claim7 := { stood := { row := parPlaysRow, standIns := [], harness := (true, "39dfe3ff1b021346a434f9bf4193688205a0782bf3bbea6a76319d5b4b88bc7d"), looks := false }, kinds := [], alts := [], laidByText := true, laidKinds := [.data, .pinned], laidTests := true, laidLooks := .later }
def ParPlaysCardSaid : Prop := Claim7.holds Tryd.pinned (.plain (OpenSpec.ofChange parPlaysSpec)) parPlaysCard

/-- THE SECOND FORM's CARD OF 'polderlaw03.ParOrder'. -/
def parOrderUptoCard : Claim7 := { stood := { row := parOrderUptoRow, standIns := [], harness := (true, "39dfe3ff1b021346a434f9bf4193688205a0782bf3bbea6a76319d5b4b88bc7d"), looks := false }, kinds := [], alts := [], laidByText := true, laidKinds := [.data, .pinned], laidTests := true, laidLooks := .later }
def ParOrderUptoCardSaid : Prop := Claim7.holds Tryd.pinned (.plain (OpenSpec.upto parOrderSpec)) parOrderUptoCard

/-- THE SECOND FORM's CARD OF 'polderlaw03.ParBlank'. -/
def parBlankUptoCard : Claim7 := { stood := { row := parBlankUptoRow, standIns := [], harness := (true, "39dfe3ff1b021346a434f9bf4193688205a0782bf3bbea6a76319d5b4b88bc7d"), looks := false }, kinds := [], alts := [], laidByText := true, laidKinds := [.data, .pinned], laidTests := true, laidLooks := .later }
def ParBlankUptoCardSaid : Prop := Claim7.holds Tryd.pinned (.plain (OpenSpec.upto parBlankSpec)) parBlankUptoCard

/-- THE SECOND FORM's CARD OF 'polderlaw03.ParPlays'. -/
def parPlaysUptoCard : Claim7 := { stood := { row := parPlaysUptoRow, standIns := [], harness := (true, "39dfe3ff1b021346a434f9bf4193688205a0782bf3bbea6a76319d5b4b88bc7d"), looks := false }, kinds := [], alts := [], laidByText := true, laidKinds := [.data, .pinned], laidTests := true, laidLooks := .later }
def ParPlaysUptoCardSaid : Prop := Claim7.holds Tryd.pinned (.plain (OpenSpec.upto parPlaysSpec)) parPlaysUptoCard
end Rows
end Go.Proofs.YtmnhdpojonlfhaaDoor
