/-
  DERIVED. GIVEN WITH THE SEED: THE CARDS: each row of YtggpmnlmbfogeaaGreatDoorRows.lean that lists a variable, with what it lists TIED to the program's text (the seventh form; the later family's looks); each row that meets fmt, with fmt's text TOLD by the authors' own Lean function (tested against real Go, not proved from fmt's source: count such statements apart). THE CARD IS WHAT COUNTS. Prove the row's statement (the work); the ties are given (YtggpmnlmbfogeaaGreatDoorTie.lean); close each card by the builder's one call (the guide's Derived/Test/ToyasCard.lean, 'card_holds'). Laid BY PROGRAM, IN A SANDBOX (cutbox-door.mjs). By AI agents, Wed Nov 11 2026. No macro, syntax, notation, axiom, sorry.
-/
import Derived.Test.YtggpmnlmbfogeaaGreatDoorRows
import GoSem.ClaimSeven
namespace Go.Proofs.YtggpmnlmbfogeaaGreatDoor
namespace Rows

/-- THE TIED CARD OF 'chcsolverlaw06.LinearValid'. -/
def linearValidCard : Claim7 := { stood := { row := linearValidRow, standIns := [], harness := (true, "d23a1691096a7d6865d26df5b014595bf2cf098af71d29fea244b0008f5aa0a3"), looks := true }, kinds := [], alts := [], laidByText := true, laidKinds := [.data, .data, .data, .sentinel, .sentinel], laidTests := true, laidLooks := .later }
def LinearValidCardSaid : Prop := Claim7.holds Tryz.pinned (.plain (OpenSpec.ofChange linearValidSpec)) linearValidCard

/-- THE TIED CARD OF 'chcsolverlaw06.LinearNormal'. -/
def linearNormalCard : Claim7 := { stood := { row := linearNormalRow, standIns := [], harness := (true, "d23a1691096a7d6865d26df5b014595bf2cf098af71d29fea244b0008f5aa0a3"), looks := true }, kinds := [], alts := [], laidByText := true, laidKinds := [.data, .data, .data, .sentinel, .sentinel], laidTests := true, laidLooks := .later }
def LinearNormalCardSaid : Prop := Claim7.holds Tryz.pinned (.plain (OpenSpec.ofChange linearNormalSpec)) linearNormalCard

/-- THE TIED CARD OF 'chcsolverlaw06.LinearScaled'. -/
def linearScaledCard : Claim7 := { stood := { row := linearScaledRow, standIns := [], harness := (true, "d23a1691096a7d6865d26df5b014595bf2cf098af71d29fea244b0008f5aa0a3"), looks := true }, kinds := [], alts := [], laidByText := true, laidKinds := [.data, .data, .data, .sentinel, .sentinel], laidTests := true, laidLooks := .later }
def LinearScaledCardSaid : Prop := Claim7.holds Tryz.pinned (.plain (OpenSpec.ofChange linearScaledSpec)) linearScaledCard

/-- THE TIED CARD OF 'chcsolverlaw06.LinearSpace'. -/
def linearSpaceCard : Claim7 := { stood := { row := linearSpaceRow, standIns := [], harness := (true, "d23a1691096a7d6865d26df5b014595bf2cf098af71d29fea244b0008f5aa0a3"), looks := true }, kinds := [], alts := [], laidByText := true, laidKinds := [.data, .data, .data, .sentinel, .sentinel], laidTests := true, laidLooks := .later }
def LinearSpaceCardSaid : Prop := Claim7.holds Tryz.pinned (.plain (OpenSpec.ofChange linearSpaceSpec)) linearSpaceCard

/-- THE TIED CARD OF 'chcsolverlaw06.LinearOperations'. -/
def linearOperationsCard : Claim7 := { stood := { row := linearOperationsRow, standIns := [], harness := (true, "d23a1691096a7d6865d26df5b014595bf2cf098af71d29fea244b0008f5aa0a3"), looks := true }, kinds := [], alts := [], laidByText := true, laidKinds := [.data, .data, .data, .sentinel, .sentinel], laidTests := true, laidLooks := .later }
def LinearOperationsCardSaid : Prop := Claim7.holds Tryz.pinned (.plain (OpenSpec.ofChange linearOperationsSpec)) linearOperationsCard

/-- THE TIED CARD OF 'chcsolverlaw06.LinearSolve'. -/
def linearSolveCard : Claim7 := { stood := { row := linearSolveRow, standIns := [], harness := (true, "d23a1691096a7d6865d26df5b014595bf2cf098af71d29fea244b0008f5aa0a3"), looks := true }, kinds := [], alts := [], laidByText := true, laidKinds := [.data, .data, .data, .sentinel, .sentinel], laidTests := true, laidLooks := .later }
def LinearSolveCardSaid : Prop := Claim7.holds Tryz.pinned (.plain (OpenSpec.ofChange linearSolveSpec)) linearSolveCard

/-- THE TIED CARD OF 'chcsolverlaw06.LinearEval'. -/
def linearEvalCard : Claim7 := { stood := { row := linearEvalRow, standIns := [], harness := (true, "d23a1691096a7d6865d26df5b014595bf2cf098af71d29fea244b0008f5aa0a3"), looks := true }, kinds := [], alts := [], laidByText := true, laidKinds := [.data, .data, .data, .sentinel, .sentinel], laidTests := true, laidLooks := .later }
def LinearEvalCardSaid : Prop := Claim7.holds Tryz.pinned (.plain (OpenSpec.ofChange linearEvalSpec)) linearEvalCard

/-- THE TIED CARD OF 'chcsolverlaw06.LinearNormalMeaning'. -/
def linearNormalMeaningCard : Claim7 := { stood := { row := linearNormalMeaningRow, standIns := [], harness := (true, "d23a1691096a7d6865d26df5b014595bf2cf098af71d29fea244b0008f5aa0a3"), looks := true }, kinds := [], alts := [], laidByText := true, laidKinds := [.data, .data, .data, .sentinel, .sentinel], laidTests := true, laidLooks := .later }
def LinearNormalMeaningCardSaid : Prop := Claim7.holds Tryz.pinned (.plain (OpenSpec.ofChange linearNormalMeaningSpec)) linearNormalMeaningCard

/-- THE TIED CARD OF 'chcsolverlaw06.LinearNegate'. -/
def linearNegateCard : Claim7 := { stood := { row := linearNegateRow, standIns := [], harness := (true, "d23a1691096a7d6865d26df5b014595bf2cf098af71d29fea244b0008f5aa0a3"), looks := true }, kinds := [], alts := [], laidByText := true, laidKinds := [.data, .data, .data, .sentinel, .sentinel], laidTests := true, laidLooks := .later }
def LinearNegateCardSaid : Prop := Claim7.holds Tryz.pinned (.plain (OpenSpec.ofChange linearNegateSpec)) linearNegateCard

/-- THE TIED CARD OF 'chcsolverlaw06.LinearValue'. -/
def linearValueCard : Claim7 := { stood := { row := linearValueRow, standIns := [], harness := (true, "d23a1691096a7d6865d26df5b014595bf2cf098af71d29fea244b0008f5aa0a3"), looks := true }, kinds := [], alts := [], laidByText := true, laidKinds := [.data, .data, .data, .sentinel, .sentinel], laidTests := true, laidLooks := .later }
def LinearValueCardSaid : Prop := Claim7.holds Tryz.pinned (.plain (OpenSpec.ofChange linearValueSpec)) linearValueCard

/-- THE TIED CARD OF 'chcsolverlaw06.LinearOf'. -/
def linearOfCard : Claim7 := { stood := { row := linearOfRow, standIns := [], harness := (true, "d23a1691096a7d6865d26df5b014595bf2cf098af71d29fea244b0008f5aa0a3"), looks := true }, kinds := [], alts := [], laidByText := true, laidKinds := [.data, .data, .data, .sentinel, .sentinel], laidTests := true, laidLooks := .later }
def LinearOfCardSaid : Prop := Claim7.holds Tryz.pinned (.plain (OpenSpec.ofChange linearOfSpec)) linearOfCard

/-- THE TIED CARD OF 'chcsolverlaw06.LinearTerm'. -/
def linearTermCard : Claim7 := { stood := { row := linearTermRow, standIns := [], harness := (true, "d23a1691096a7d6865d26df5b014595bf2cf098af71d29fea244b0008f5aa0a3"), looks := true }, kinds := [], alts := [], laidByText := true, laidKinds := [.data, .data, .data, .sentinel, .sentinel], laidTests := true, laidLooks := .later }
def LinearTermCardSaid : Prop := Claim7.holds Tryz.pinned (.plain (OpenSpec.ofChange linearTermSpec)) linearTermCard

/-- THE TIED CARD OF 'chcsolverlaw06.LinearAtom'. -/
def linearAtomCard : Claim7 := { stood := { row := linearAtomRow, standIns := [], harness := (true, "d23a1691096a7d6865d26df5b014595bf2cf098af71d29fea244b0008f5aa0a3"), looks := true }, kinds := [], alts := [], laidByText := true, laidKinds := [.data, .data, .data, .sentinel, .sentinel], laidTests := true, laidLooks := .later }
def LinearAtomCardSaid : Prop := Claim7.holds Tryz.pinned (.plain (OpenSpec.ofChange linearAtomSpec)) linearAtomCard

/-- THE TIED CARD OF 'chcsolverlaw06.LinearFormula'. -/
def linearFormulaCard : Claim7 := { stood := { row := linearFormulaRow, standIns := [], harness := (true, "d23a1691096a7d6865d26df5b014595bf2cf098af71d29fea244b0008f5aa0a3"), looks := true }, kinds := [], alts := [], laidByText := true, laidKinds := [.data, .data, .data, .sentinel, .sentinel], laidTests := true, laidLooks := .later }
def LinearFormulaCardSaid : Prop := Claim7.holds Tryz.pinned (.plain (OpenSpec.ofChange linearFormulaSpec)) linearFormulaCard

/-- THE SECOND FORM's CARD OF 'chcsolverlaw06.LinearValid'. -/
def linearValidUptoCard : Claim7 := { stood := { row := linearValidUptoRow, standIns := [], harness := (true, "d23a1691096a7d6865d26df5b014595bf2cf098af71d29fea244b0008f5aa0a3"), looks := true }, kinds := [], alts := [], laidByText := true, laidKinds := [.data, .data, .data, .sentinel, .sentinel], laidTests := true, laidLooks := .later }
def LinearValidUptoCardSaid : Prop := Claim7.holds Tryz.pinned (.plain (OpenSpec.upto linearValidSpec)) linearValidUptoCard

/-- THE SECOND FORM's CARD OF 'chcsolverlaw06.LinearNormal'. -/
def linearNormalUptoCard : Claim7 := { stood := { row := linearNormalUptoRow, standIns := [], harness := (true, "d23a1691096a7d6865d26df5b014595bf2cf098af71d29fea244b0008f5aa0a3"), looks := true }, kinds := [], alts := [], laidByText := true, laidKinds := [.data, .data, .data, .sentinel, .sentinel], laidTests := true, laidLooks := .later }
def LinearNormalUptoCardSaid : Prop := Claim7.holds Tryz.pinned (.plain (OpenSpec.upto linearNormalSpec)) linearNormalUptoCard

/-- THE SECOND FORM's CARD OF 'chcsolverlaw06.LinearScaled'. -/
def linearScaledUptoCard : Claim7 := { stood := { row := linearScaledUptoRow, standIns := [], harness := (true, "d23a1691096a7d6865d26df5b014595bf2cf098af71d29fea244b0008f5aa0a3"), looks := true }, kinds := [], alts := [], laidByText := true, laidKinds := [.data, .data, .data, .sentinel, .sentinel], laidTests := true, laidLooks := .later }
def LinearScaledUptoCardSaid : Prop := Claim7.holds Tryz.pinned (.plain (OpenSpec.upto linearScaledSpec)) linearScaledUptoCard

/-- THE SECOND FORM's CARD OF 'chcsolverlaw06.LinearSpace'. -/
def linearSpaceUptoCard : Claim7 := { stood := { row := linearSpaceUptoRow, standIns := [], harness := (true, "d23a1691096a7d6865d26df5b014595bf2cf098af71d29fea244b0008f5aa0a3"), looks := true }, kinds := [], alts := [], laidByText := true, laidKinds := [.data, .data, .data, .sentinel, .sentinel], laidTests := true, laidLooks := .later }
def LinearSpaceUptoCardSaid : Prop := Claim7.holds Tryz.pinned (.plain (OpenSpec.upto linearSpaceSpec)) linearSpaceUptoCard

/-- THE SECOND FORM's CARD OF 'chcsolverlaw06.LinearOperations'. -/
def linearOperationsUptoCard : Claim7 := { stood := { row := linearOperationsUptoRow, standIns := [], harness := (true, "d23a1691096a7d6865d26df5b014595bf2cf098af71d29fea244b0008f5aa0a3"), looks := true }, kinds := [], alts := [], laidByText := true, laidKinds := [.data, .data, .data, .sentinel, .sentinel], laidTests := true, laidLooks := .later }
def LinearOperationsUptoCardSaid : Prop := Claim7.holds Tryz.pinned (.plain (OpenSpec.upto linearOperationsSpec)) linearOperationsUptoCard

/-- THE SECOND FORM's CARD OF 'chcsolverlaw06.LinearSolve'. -/
def linearSolveUptoCard : Claim7 := { stood := { row := linearSolveUptoRow, standIns := [], harness := (true, "d23a1691096a7d6865d26df5b014595bf2cf098af71d29fea244b0008f5aa0a3"), looks := true }, kinds := [], alts := [], laidByText := true, laidKinds := [.data, .data, .data, .sentinel, .sentinel], laidTests := true, laidLooks := .later }
def LinearSolveUptoCardSaid : Prop := Claim7.holds Tryz.pinned (.plain (OpenSpec.upto linearSolveSpec)) linearSolveUptoCard

/-- THE SECOND FORM's CARD OF 'chcsolverlaw06.LinearEval'. -/
def linearEvalUptoCard : Claim7 := { stood := { row := linearEvalUptoRow, standIns := [], harness := (true, "d23a1691096a7d6865d26df5b014595bf2cf098af71d29fea244b0008f5aa0a3"), looks := true }, kinds := [], alts := [], laidByText := true, laidKinds := [.data, .data, .data, .sentinel, .sentinel], laidTests := true, laidLooks := .later }
def LinearEvalUptoCardSaid : Prop := Claim7.holds Tryz.pinned (.plain (OpenSpec.upto linearEvalSpec)) linearEvalUptoCard

/-- THE SECOND FORM's CARD OF 'chcsolverlaw06.LinearNormalMeaning'. -/
def linearNormalMeaningUptoCard : Claim7 := { stood := { row := linearNormalMeaningUptoRow, standIns := [], harness := (true, "d23a1691096a7d6865d26df5b014595bf2cf098af71d29fea244b0008f5aa0a3"), looks := true }, kinds := [], alts := [], laidByText := true, laidKinds := [.data, .data, .data, .sentinel, .sentinel], laidTests := true, laidLooks := .later }
def LinearNormalMeaningUptoCardSaid : Prop := Claim7.holds Tryz.pinned (.plain (OpenSpec.upto linearNormalMeaningSpec)) linearNormalMeaningUptoCard

/-- THE SECOND FORM's CARD OF 'chcsolverlaw06.LinearNegate'. -/
def linearNegateUptoCard : Claim7 := { stood := { row := linearNegateUptoRow, standIns := [], harness := (true, "d23a1691096a7d6865d26df5b014595bf2cf098af71d29fea244b0008f5aa0a3"), looks := true }, kinds := [], alts := [], laidByText := true, laidKinds := [.data, .data, .data, .sentinel, .sentinel], laidTests := true, laidLooks := .later }
def LinearNegateUptoCardSaid : Prop := Claim7.holds Tryz.pinned (.plain (OpenSpec.upto linearNegateSpec)) linearNegateUptoCard

/-- THE SECOND FORM's CARD OF 'chcsolverlaw06.LinearValue'. -/
def linearValueUptoCard : Claim7 := { stood := { row := linearValueUptoRow, standIns := [], harness := (true, "d23a1691096a7d6865d26df5b014595bf2cf098af71d29fea244b0008f5aa0a3"), looks := true }, kinds := [], alts := [], laidByText := true, laidKinds := [.data, .data, .data, .sentinel, .sentinel], laidTests := true, laidLooks := .later }
def LinearValueUptoCardSaid : Prop := Claim7.holds Tryz.pinned (.plain (OpenSpec.upto linearValueSpec)) linearValueUptoCard

/-- THE SECOND FORM's CARD OF 'chcsolverlaw06.LinearOf'. -/
def linearOfUptoCard : Claim7 := { stood := { row := linearOfUptoRow, standIns := [], harness := (true, "d23a1691096a7d6865d26df5b014595bf2cf098af71d29fea244b0008f5aa0a3"), looks := true }, kinds := [], alts := [], laidByText := true, laidKinds := [.data, .data, .data, .sentinel, .sentinel], laidTests := true, laidLooks := .later }
def LinearOfUptoCardSaid : Prop := Claim7.holds Tryz.pinned (.plain (OpenSpec.upto linearOfSpec)) linearOfUptoCard

/-- THE SECOND FORM's CARD OF 'chcsolverlaw06.LinearTerm'. -/
def linearTermUptoCard : Claim7 := { stood := { row := linearTermUptoRow, standIns := [], harness := (true, "d23a1691096a7d6865d26df5b014595bf2cf098af71d29fea244b0008f5aa0a3"), looks := true }, kinds := [], alts := [], laidByText := true, laidKinds := [.data, .data, .data, .sentinel, .sentinel], laidTests := true, laidLooks := .later }
def LinearTermUptoCardSaid : Prop := Claim7.holds Tryz.pinned (.plain (OpenSpec.upto linearTermSpec)) linearTermUptoCard

/-- THE SECOND FORM's CARD OF 'chcsolverlaw06.LinearAtom'. -/
def linearAtomUptoCard : Claim7 := { stood := { row := linearAtomUptoRow, standIns := [], harness := (true, "d23a1691096a7d6865d26df5b014595bf2cf098af71d29fea244b0008f5aa0a3"), looks := true }, kinds := [], alts := [], laidByText := true, laidKinds := [.data, .data, .data, .sentinel, .sentinel], laidTests := true, laidLooks := .later }
def LinearAtomUptoCardSaid : Prop := Claim7.holds Tryz.pinned (.plain (OpenSpec.upto linearAtomSpec)) linearAtomUptoCard

/-- THE SECOND FORM's CARD OF 'chcsolverlaw06.LinearFormula'. -/
def linearFormulaUptoCard : Claim7 := { stood := { row := linearFormulaUptoRow, standIns := [], harness := (true, "d23a1691096a7d6865d26df5b014595bf2cf098af71d29fea244b0008f5aa0a3"), looks := true }, kinds := [], alts := [], laidByText := true, laidKinds := [.data, .data, .data, .sentinel, .sentinel], laidTests := true, laidLooks := .later }
def LinearFormulaUptoCardSaid : Prop := Claim7.holds Tryz.pinned (.plain (OpenSpec.upto linearFormulaSpec)) linearFormulaUptoCard
end Rows
end Go.Proofs.YtggpmnlmbfogeaaGreatDoor
