/-
  DERIVED. GIVEN WITH THE SEED: THE CARDS: each row of YtkfppicmdgbfjaaGreatDoorRows.lean that lists a variable, with what it lists TIED to the program's text (the seventh form; the later family's looks); each row that meets fmt, with fmt's text TOLD by the authors' own Lean function (tested against real Go, not proved from fmt's source: count such statements apart). THE CARD IS WHAT COUNTS. Prove the row's statement (the work); the ties are given (YtkfppicmdgbfjaaGreatDoorTie.lean); close each card by the builder's one call (the guide's Derived/Test/ToyasCard.lean, 'card_holds'). Laid BY PROGRAM, IN A SANDBOX (cutbox-door.mjs). By AI agents, Wed Nov 11 2026. No macro, syntax, notation, axiom, sorry.
-/
import Derived.Test.YtkfppicmdgbfjaaGreatDoorRows
import GoSem.ClaimSeven
namespace Go.Proofs.YtkfppicmdgbfjaaGreatDoor
namespace Rows

/-- THE TIED CARD OF 'chcsolverlaw24.CnfHoldsMatchesSpec'. -/
def cnfHoldsMatchesSpecCard : Claim7 := { stood := { row := cnfHoldsMatchesSpecRow, standIns := [], harness := (true, "2569583c4397046c39fee8a03f4b472b971131006bf5554d4d0f1ede964648a5"), looks := true }, kinds := [], alts := [], laidByText := true, laidKinds := [.data, .data, .data, .sentinel, .sentinel], laidTests := true, laidLooks := .later }
def CnfHoldsMatchesSpecCardSaid : Prop := Claim7.holds Tryz.pinned (.plain (OpenSpec.ofChange cnfHoldsMatchesSpecSpec)) cnfHoldsMatchesSpecCard

/-- THE TIED CARD OF 'chcsolverlaw24.CnfEquivalent'. -/
def cnfEquivalentCard : Claim7 := { stood := { row := cnfEquivalentRow, standIns := [], harness := (true, "2569583c4397046c39fee8a03f4b472b971131006bf5554d4d0f1ede964648a5"), looks := true }, kinds := [], alts := [], laidByText := true, laidKinds := [.data, .data, .data, .sentinel, .sentinel], laidTests := true, laidLooks := .later }
def CnfEquivalentCardSaid : Prop := Claim7.holds Tryz.pinned (.plain (OpenSpec.ofChange cnfEquivalentSpec)) cnfEquivalentCard

/-- THE TIED CARD OF 'chcsolverlaw24.CnfUnique'. -/
def cnfUniqueCard : Claim7 := { stood := { row := cnfUniqueRow, standIns := [], harness := (true, "2569583c4397046c39fee8a03f4b472b971131006bf5554d4d0f1ede964648a5"), looks := true }, kinds := [], alts := [], laidByText := true, laidKinds := [.data, .data, .data, .sentinel, .sentinel], laidTests := true, laidLooks := .later }
def CnfUniqueCardSaid : Prop := Claim7.holds Tryz.pinned (.plain (OpenSpec.ofChange cnfUniqueSpec)) cnfUniqueCard

/-- THE TIED CARD OF 'chcsolverlaw24.CnfNames'. -/
def cnfNamesCard : Claim7 := { stood := { row := cnfNamesRow, standIns := [], harness := (true, "2569583c4397046c39fee8a03f4b472b971131006bf5554d4d0f1ede964648a5"), looks := true }, kinds := [], alts := [], laidByText := true, laidKinds := [.data, .data, .data, .sentinel, .sentinel], laidTests := true, laidLooks := .later }
def CnfNamesCardSaid : Prop := Claim7.holds Tryz.pinned (.plain (OpenSpec.ofChange cnfNamesSpec)) cnfNamesCard

/-- THE SECOND FORM's CARD OF 'chcsolverlaw24.CnfHoldsMatchesSpec'. -/
def cnfHoldsMatchesSpecUptoCard : Claim7 := { stood := { row := cnfHoldsMatchesSpecUptoRow, standIns := [], harness := (true, "2569583c4397046c39fee8a03f4b472b971131006bf5554d4d0f1ede964648a5"), looks := true }, kinds := [], alts := [], laidByText := true, laidKinds := [.data, .data, .data, .sentinel, .sentinel], laidTests := true, laidLooks := .later }
def CnfHoldsMatchesSpecUptoCardSaid : Prop := Claim7.holds Tryz.pinned (.plain (OpenSpec.upto cnfHoldsMatchesSpecSpec)) cnfHoldsMatchesSpecUptoCard

/-- THE SECOND FORM's CARD OF 'chcsolverlaw24.CnfEquivalent'. -/
def cnfEquivalentUptoCard : Claim7 := { stood := { row := cnfEquivalentUptoRow, standIns := [], harness := (true, "2569583c4397046c39fee8a03f4b472b971131006bf5554d4d0f1ede964648a5"), looks := true }, kinds := [], alts := [], laidByText := true, laidKinds := [.data, .data, .data, .sentinel, .sentinel], laidTests := true, laidLooks := .later }
def CnfEquivalentUptoCardSaid : Prop := Claim7.holds Tryz.pinned (.plain (OpenSpec.upto cnfEquivalentSpec)) cnfEquivalentUptoCard

/-- THE SECOND FORM's CARD OF 'chcsolverlaw24.CnfUnique'. -/
def cnfUniqueUptoCard : Claim7 := { stood := { row := cnfUniqueUptoRow, standIns := [], harness := (true, "2569583c4397046c39fee8a03f4b472b971131006bf5554d4d0f1ede964648a5"), looks := true }, kinds := [], alts := [], laidByText := true, laidKinds := [.data, .data, .data, .sentinel, .sentinel], laidTests := true, laidLooks := .later }
def CnfUniqueUptoCardSaid : Prop := Claim7.holds Tryz.pinned (.plain (OpenSpec.upto cnfUniqueSpec)) cnfUniqueUptoCard

/-- THE SECOND FORM's CARD OF 'chcsolverlaw24.CnfNames'. -/
def cnfNamesUptoCard : Claim7 := { stood := { row := cnfNamesUptoRow, standIns := [], harness := (true, "2569583c4397046c39fee8a03f4b472b971131006bf5554d4d0f1ede964648a5"), looks := true }, kinds := [], alts := [], laidByText := true, laidKinds := [.data, .data, .data, .sentinel, .sentinel], laidTests := true, laidLooks := .later }
def CnfNamesUptoCardSaid : Prop := Claim7.holds Tryz.pinned (.plain (OpenSpec.upto cnfNamesSpec)) cnfNamesUptoCard
end Rows
end Go.Proofs.YtkfppicmdgbfjaaGreatDoor
