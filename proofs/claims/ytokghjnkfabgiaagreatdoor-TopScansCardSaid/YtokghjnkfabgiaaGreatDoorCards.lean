/-
  DERIVED. GIVEN WITH THE SEED: THE CARDS: each row of YtokghjnkfabgiaaGreatDoorRows.lean that lists a variable, with what it lists TIED to the program's text (the seventh form; the later family's looks); each row that meets fmt, with fmt's text TOLD by the authors' own Lean function (tested against real Go, not proved from fmt's source: count such statements apart). THE CARD IS WHAT COUNTS. Prove the row's statement (the work); the ties are given (YtokghjnkfabgiaaGreatDoorTie.lean); close each card by the builder's one call (the guide's Derived/Test/ToyasCard.lean, 'card_holds'). Laid BY PROGRAM, IN A SANDBOX (cutbox-door.mjs). By AI agents, Wed Nov 11 2026. No macro, syntax, notation, axiom, sorry.
-/
import Derived.Test.YtokghjnkfabgiaaGreatDoorRows
import GoSem.ClaimSeven
namespace Go.Proofs.YtokghjnkfabgiaaGreatDoor
namespace Rows

/-- THE TIED CARD OF 'windrowtop.TopSpelled'. -/
def topSpelledCard : Claim7 := { stood := { row := topSpelledRow, standIns := [], harness := (true, "922281500f39f6258d529c19ece890c8e600367e795b4875c9aae4f698405254"), looks := true }, kinds := [], alts := [], laidByText := true, laidKinds := [.data, .data, .data, .data, .sentinel, .sentinel, .listed, .data, .pinned], laidTests := true, laidLooks := .later }
def TopSpelledCardSaid : Prop := Claim7.holds Tryz.pinned (.plain (OpenSpec.ofChange topSpelledSpec)) topSpelledCard

/-- THE TIED CARD OF 'windrowtop.TopScans'. -/
def topScansCard : Claim7 := { stood := { row := topScansRow, standIns := [], harness := (true, "922281500f39f6258d529c19ece890c8e600367e795b4875c9aae4f698405254"), looks := true }, kinds := [], alts := [], laidByText := true, laidKinds := [.data, .data, .data, .data, .sentinel, .sentinel, .listed, .data, .pinned], laidTests := true, laidLooks := .later }
def TopScansCardSaid : Prop := Claim7.holds Tryz.pinned (.plain (OpenSpec.ofChange topScansSpec)) topScansCard

/-- THE TIED CARD OF 'windrowtop.TopNamed'. -/
def topNamedCard : Claim7 := { stood := { row := topNamedRow, standIns := [], harness := (true, "922281500f39f6258d529c19ece890c8e600367e795b4875c9aae4f698405254"), looks := true }, kinds := [], alts := [], laidByText := true, laidKinds := [.data, .data, .data, .data, .sentinel, .sentinel, .listed, .data, .pinned], laidTests := true, laidLooks := .later }
def TopNamedCardSaid : Prop := Claim7.holds Tryz.pinned (.plain (OpenSpec.ofChange topNamedSpec)) topNamedCard

/-- THE SECOND FORM's CARD OF 'windrowtop.TopSpelled'. -/
def topSpelledUptoCard : Claim7 := { stood := { row := topSpelledUptoRow, standIns := [], harness := (true, "922281500f39f6258d529c19ece890c8e600367e795b4875c9aae4f698405254"), looks := true }, kinds := [], alts := [], laidByText := true, laidKinds := [.data, .data, .data, .data, .sentinel, .sentinel, .listed, .data, .pinned], laidTests := true, laidLooks := .later }
def TopSpelledUptoCardSaid : Prop := Claim7.holds Tryz.pinned (.plain (OpenSpec.upto topSpelledSpec)) topSpelledUptoCard

/-- THE SECOND FORM's CARD OF 'windrowtop.TopScans'. -/
def topScansUptoCard : Claim7 := { stood := { row := topScansUptoRow, standIns := [], harness := (true, "922281500f39f6258d529c19ece890c8e600367e795b4875c9aae4f698405254"), looks := true }, kinds := [], alts := [], laidByText := true, laidKinds := [.data, .data, .data, .data, .sentinel, .sentinel, .listed, .data, .pinned], laidTests := true, laidLooks := .later }
def TopScansUptoCardSaid : Prop := Claim7.holds Tryz.pinned (.plain (OpenSpec.upto topScansSpec)) topScansUptoCard

/-- THE SECOND FORM's CARD OF 'windrowtop.TopNamed'. -/
def topNamedUptoCard : Claim7 := { stood := { row := topNamedUptoRow, standIns := [], harness := (true, "922281500f39f6258d529c19ece890c8e600367e795b4875c9aae4f698405254"), looks := true }, kinds := [], alts := [], laidByText := true, laidKinds := [.data, .data, .data, .data, .sentinel, .sentinel, .listed, .data, .pinned], laidTests := true, laidLooks := .later }
def TopNamedUptoCardSaid : Prop := Claim7.holds Tryz.pinned (.plain (OpenSpec.upto topNamedSpec)) topNamedUptoCard
end Rows
end Go.Proofs.YtokghjnkfabgiaaGreatDoor
