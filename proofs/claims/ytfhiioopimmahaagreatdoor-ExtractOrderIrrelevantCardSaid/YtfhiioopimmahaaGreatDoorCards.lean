/-
  DERIVED. GIVEN WITH THE SEED: THE CARDS: each row of YtfhiioopimmahaaGreatDoorRows.lean that lists a variable, with what it lists TIED to the program's text (the seventh form; the later family's looks); each row that meets fmt, with fmt's text TOLD by the authors' own Lean function (tested against real Go, not proved from fmt's source: count such statements apart). THE CARD IS WHAT COUNTS. Prove the row's statement (the work); the ties are given (YtfhiioopimmahaaGreatDoorTie.lean); close each card by the builder's one call (the guide's Derived/Test/ToyasCard.lean, 'card_holds'). Laid BY PROGRAM, IN A SANDBOX (cutbox-door.mjs). By AI agents, Wed Nov 11 2026. No macro, syntax, notation, axiom, sorry.
-/
import Derived.Test.YtfhiioopimmahaaGreatDoorRows
import GoSem.ClaimSeven
namespace Go.Proofs.YtfhiioopimmahaaGreatDoor
namespace Rows

/-- THE TIED CARD OF 'paxtarlaw20.WalkClassesAreInodes'. -/
def walkClassesAreInodesCard : Claim7 := { stood := { row := walkClassesAreInodesRow, standIns := [], harness := (true, "e1daa420078c2577f9e7183478e0595786e944dff6a4e56afc2f7b4b9f772c91"), looks := true }, kinds := [], alts := [], laidByText := true, laidKinds := [.data, .data, .data, .sentinel, .sentinel, .widerDeep], laidTests := true, laidLooks := .later }
def WalkClassesAreInodesCardSaid : Prop := Claim7.holds Tryz.pinned (.plain (OpenSpec.ofChange walkClassesAreInodesSpec)) walkClassesAreInodesCard

/-- THE TIED CARD OF 'paxtarlaw20.WalkPathsAreComplete'. -/
def walkPathsAreCompleteCard : Claim7 := { stood := { row := walkPathsAreCompleteRow, standIns := [], harness := (true, "e1daa420078c2577f9e7183478e0595786e944dff6a4e56afc2f7b4b9f772c91"), looks := true }, kinds := [], alts := [], laidByText := true, laidKinds := [.data, .data, .data, .sentinel, .sentinel, .widerDeep], laidTests := true, laidLooks := .later }
def WalkPathsAreCompleteCardSaid : Prop := Claim7.holds Tryz.pinned (.plain (OpenSpec.ofChange walkPathsAreCompleteSpec)) walkPathsAreCompleteCard

/-- THE TIED CARD OF 'paxtarlaw21.ExtractOrderIrrelevant'. -/
def extractOrderIrrelevantCard : Claim7 := { stood := { row := extractOrderIrrelevantRow, standIns := [], harness := (true, "e1daa420078c2577f9e7183478e0595786e944dff6a4e56afc2f7b4b9f772c91"), looks := true }, kinds := [], alts := [], laidByText := true, laidKinds := [.data, .data, .data, .sentinel, .sentinel, .widerDeep], laidTests := true, laidLooks := .later }
def ExtractOrderIrrelevantCardSaid : Prop := Claim7.holds Tryz.pinned (.plain (OpenSpec.ofChange extractOrderIrrelevantSpec)) extractOrderIrrelevantCard

/-- THE TIED CARD OF 'paxtarlaw21.ExtractTreeMatchesReference'. -/
def extractTreeMatchesReferenceCard : Claim7 := { stood := { row := extractTreeMatchesReferenceRow, standIns := [], harness := (true, "e1daa420078c2577f9e7183478e0595786e944dff6a4e56afc2f7b4b9f772c91"), looks := true }, kinds := [], alts := [], laidByText := true, laidKinds := [.data, .data, .data, .sentinel, .sentinel, .widerDeep], laidTests := true, laidLooks := .later }
def ExtractTreeMatchesReferenceCardSaid : Prop := Claim7.holds Tryz.pinned (.plain (OpenSpec.ofChange extractTreeMatchesReferenceSpec)) extractTreeMatchesReferenceCard

/-- THE TIED CARD OF 'paxtarlaw21.ExtractRoundTrip'. -/
def extractRoundTripCard : Claim7 := { stood := { row := extractRoundTripRow, standIns := [], harness := (true, "e1daa420078c2577f9e7183478e0595786e944dff6a4e56afc2f7b4b9f772c91"), looks := true }, kinds := [], alts := [], laidByText := true, laidKinds := [.data, .data, .data, .sentinel, .sentinel, .widerDeep], laidTests := true, laidLooks := .later }
def ExtractRoundTripCardSaid : Prop := Claim7.holds Tryz.pinned (.plain (OpenSpec.ofChange extractRoundTripSpec)) extractRoundTripCard

/-- THE SECOND FORM's CARD OF 'paxtarlaw20.WalkClassesAreInodes'. -/
def walkClassesAreInodesUptoCard : Claim7 := { stood := { row := walkClassesAreInodesUptoRow, standIns := [], harness := (true, "e1daa420078c2577f9e7183478e0595786e944dff6a4e56afc2f7b4b9f772c91"), looks := true }, kinds := [], alts := [], laidByText := true, laidKinds := [.data, .data, .data, .sentinel, .sentinel, .widerDeep], laidTests := true, laidLooks := .later }
def WalkClassesAreInodesUptoCardSaid : Prop := Claim7.holds Tryz.pinned (.plain (OpenSpec.upto walkClassesAreInodesSpec)) walkClassesAreInodesUptoCard

/-- THE SECOND FORM's CARD OF 'paxtarlaw20.WalkPathsAreComplete'. -/
def walkPathsAreCompleteUptoCard : Claim7 := { stood := { row := walkPathsAreCompleteUptoRow, standIns := [], harness := (true, "e1daa420078c2577f9e7183478e0595786e944dff6a4e56afc2f7b4b9f772c91"), looks := true }, kinds := [], alts := [], laidByText := true, laidKinds := [.data, .data, .data, .sentinel, .sentinel, .widerDeep], laidTests := true, laidLooks := .later }
def WalkPathsAreCompleteUptoCardSaid : Prop := Claim7.holds Tryz.pinned (.plain (OpenSpec.upto walkPathsAreCompleteSpec)) walkPathsAreCompleteUptoCard

/-- THE SECOND FORM's CARD OF 'paxtarlaw21.ExtractOrderIrrelevant'. -/
def extractOrderIrrelevantUptoCard : Claim7 := { stood := { row := extractOrderIrrelevantUptoRow, standIns := [], harness := (true, "e1daa420078c2577f9e7183478e0595786e944dff6a4e56afc2f7b4b9f772c91"), looks := true }, kinds := [], alts := [], laidByText := true, laidKinds := [.data, .data, .data, .sentinel, .sentinel, .widerDeep], laidTests := true, laidLooks := .later }
def ExtractOrderIrrelevantUptoCardSaid : Prop := Claim7.holds Tryz.pinned (.plain (OpenSpec.upto extractOrderIrrelevantSpec)) extractOrderIrrelevantUptoCard

/-- THE SECOND FORM's CARD OF 'paxtarlaw21.ExtractTreeMatchesReference'. -/
def extractTreeMatchesReferenceUptoCard : Claim7 := { stood := { row := extractTreeMatchesReferenceUptoRow, standIns := [], harness := (true, "e1daa420078c2577f9e7183478e0595786e944dff6a4e56afc2f7b4b9f772c91"), looks := true }, kinds := [], alts := [], laidByText := true, laidKinds := [.data, .data, .data, .sentinel, .sentinel, .widerDeep], laidTests := true, laidLooks := .later }
def ExtractTreeMatchesReferenceUptoCardSaid : Prop := Claim7.holds Tryz.pinned (.plain (OpenSpec.upto extractTreeMatchesReferenceSpec)) extractTreeMatchesReferenceUptoCard

/-- THE SECOND FORM's CARD OF 'paxtarlaw21.ExtractRoundTrip'. -/
def extractRoundTripUptoCard : Claim7 := { stood := { row := extractRoundTripUptoRow, standIns := [], harness := (true, "e1daa420078c2577f9e7183478e0595786e944dff6a4e56afc2f7b4b9f772c91"), looks := true }, kinds := [], alts := [], laidByText := true, laidKinds := [.data, .data, .data, .sentinel, .sentinel, .widerDeep], laidTests := true, laidLooks := .later }
def ExtractRoundTripUptoCardSaid : Prop := Claim7.holds Tryz.pinned (.plain (OpenSpec.upto extractRoundTripSpec)) extractRoundTripUptoCard
end Rows
end Go.Proofs.YtfhiioopimmahaaGreatDoor
