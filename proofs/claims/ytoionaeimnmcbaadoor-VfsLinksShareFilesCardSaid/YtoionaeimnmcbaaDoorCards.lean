/-
  DERIVED. GIVEN WITH THE SEED: THE CARDS: each row of YtoionaeimnmcbaaDoorRows.lean that lists a variable, with what it lists TIED to the program's text (the seventh form; the later family's looks); each row that meets fmt, with fmt's text TOLD by the authors' own Lean function (tested against real Go, not proved from fmt's source: count such statements apart). THE CARD IS WHAT COUNTS. Prove the row's statement (the work); the ties are given (YtoionaeimnmcbaaDoorTie.lean); close each card by the builder's one call (the guide's Derived/Test/ToyasCard.lean, 'card_holds'). Laid BY PROGRAM, IN A SANDBOX (cutbox-door.mjs). By AI agents, Wed Nov 11 2026. No macro, syntax, notation, axiom, sorry.
-/
import Derived.Test.YtoionaeimnmcbaaDoorRows
import GoSem.ClaimSeven
namespace Go.Proofs.YtoionaeimnmcbaaDoor
namespace Rows

/-- THE TIED CARD OF 'paxtarlaw19.VfsInodesAreDistinct'. -/
def vfsInodesAreDistinctCard : Claim7 := { stood := { row := vfsInodesAreDistinctRow, standIns := [], harness := (true, "5d9bdc8d6f9c6182646d9b3ea1258afd68cc8dd813f0b8a64bd102aa032c054e"), looks := true }, kinds := [], alts := [], laidByText := true, laidKinds := [.data, .data, .data, .sentinel, .sentinel, .widerDeep], laidTests := true, laidLooks := .later }
def VfsInodesAreDistinctCardSaid : Prop := Claim7.holds Tryd.pinned (.plain (OpenSpec.ofChange vfsInodesAreDistinctSpec)) vfsInodesAreDistinctCard

/-- THE TIED CARD OF 'paxtarlaw19.VfsLinksShareFiles'. -/
def vfsLinksShareFilesCard : Claim7 := { stood := { row := vfsLinksShareFilesRow, standIns := [], harness := (true, "5d9bdc8d6f9c6182646d9b3ea1258afd68cc8dd813f0b8a64bd102aa032c054e"), looks := true }, kinds := [], alts := [], laidByText := true, laidKinds := [.data, .data, .data, .sentinel, .sentinel, .widerDeep], laidTests := true, laidLooks := .later }
def VfsLinksShareFilesCardSaid : Prop := Claim7.holds Tryd.pinned (.plain (OpenSpec.ofChange vfsLinksShareFilesSpec)) vfsLinksShareFilesCard

/-- THE TIED CARD OF 'paxtarlaw19.VfsCreateRules'. -/
def vfsCreateRulesCard : Claim7 := { stood := { row := vfsCreateRulesRow, standIns := [], harness := (true, "5d9bdc8d6f9c6182646d9b3ea1258afd68cc8dd813f0b8a64bd102aa032c054e"), looks := true }, kinds := [], alts := [], laidByText := true, laidKinds := [.data, .data, .data, .sentinel, .sentinel, .widerDeep], laidTests := true, laidLooks := .later }
def VfsCreateRulesCardSaid : Prop := Claim7.holds Tryd.pinned (.plain (OpenSpec.ofChange vfsCreateRulesSpec)) vfsCreateRulesCard

/-- THE TIED CARD OF 'paxtarlaw19.VfsOptions'. -/
def vfsOptionsCard : Claim7 := { stood := { row := vfsOptionsRow, standIns := [], harness := (true, "5d9bdc8d6f9c6182646d9b3ea1258afd68cc8dd813f0b8a64bd102aa032c054e"), looks := true }, kinds := [], alts := [], laidByText := true, laidKinds := [.data, .data, .data, .sentinel, .sentinel, .widerDeep], laidTests := true, laidLooks := .later }
def VfsOptionsCardSaid : Prop := Claim7.holds Tryd.pinned (.plain (OpenSpec.ofChange vfsOptionsSpec)) vfsOptionsCard

/-- THE SECOND FORM's CARD OF 'paxtarlaw19.VfsInodesAreDistinct'. -/
def vfsInodesAreDistinctUptoCard : Claim7 := { stood := { row := vfsInodesAreDistinctUptoRow, standIns := [], harness := (true, "5d9bdc8d6f9c6182646d9b3ea1258afd68cc8dd813f0b8a64bd102aa032c054e"), looks := true }, kinds := [], alts := [], laidByText := true, laidKinds := [.data, .data, .data, .sentinel, .sentinel, .widerDeep], laidTests := true, laidLooks := .later }
def VfsInodesAreDistinctUptoCardSaid : Prop := Claim7.holds Tryd.pinned (.plain (OpenSpec.upto vfsInodesAreDistinctSpec)) vfsInodesAreDistinctUptoCard

/-- THE SECOND FORM's CARD OF 'paxtarlaw19.VfsLinksShareFiles'. -/
def vfsLinksShareFilesUptoCard : Claim7 := { stood := { row := vfsLinksShareFilesUptoRow, standIns := [], harness := (true, "5d9bdc8d6f9c6182646d9b3ea1258afd68cc8dd813f0b8a64bd102aa032c054e"), looks := true }, kinds := [], alts := [], laidByText := true, laidKinds := [.data, .data, .data, .sentinel, .sentinel, .widerDeep], laidTests := true, laidLooks := .later }
def VfsLinksShareFilesUptoCardSaid : Prop := Claim7.holds Tryd.pinned (.plain (OpenSpec.upto vfsLinksShareFilesSpec)) vfsLinksShareFilesUptoCard

/-- THE SECOND FORM's CARD OF 'paxtarlaw19.VfsCreateRules'. -/
def vfsCreateRulesUptoCard : Claim7 := { stood := { row := vfsCreateRulesUptoRow, standIns := [], harness := (true, "5d9bdc8d6f9c6182646d9b3ea1258afd68cc8dd813f0b8a64bd102aa032c054e"), looks := true }, kinds := [], alts := [], laidByText := true, laidKinds := [.data, .data, .data, .sentinel, .sentinel, .widerDeep], laidTests := true, laidLooks := .later }
def VfsCreateRulesUptoCardSaid : Prop := Claim7.holds Tryd.pinned (.plain (OpenSpec.upto vfsCreateRulesSpec)) vfsCreateRulesUptoCard

/-- THE SECOND FORM's CARD OF 'paxtarlaw19.VfsOptions'. -/
def vfsOptionsUptoCard : Claim7 := { stood := { row := vfsOptionsUptoRow, standIns := [], harness := (true, "5d9bdc8d6f9c6182646d9b3ea1258afd68cc8dd813f0b8a64bd102aa032c054e"), looks := true }, kinds := [], alts := [], laidByText := true, laidKinds := [.data, .data, .data, .sentinel, .sentinel, .widerDeep], laidTests := true, laidLooks := .later }
def VfsOptionsUptoCardSaid : Prop := Claim7.holds Tryd.pinned (.plain (OpenSpec.upto vfsOptionsSpec)) vfsOptionsUptoCard
end Rows
end Go.Proofs.YtoionaeimnmcbaaDoor
