/-
  DERIVED. GIVEN WITH THE SEED: THE CARDS: each row of YtonghiaocpenaaaGreatDoorRows.lean that lists a variable, with what it lists TIED to the program's text (the seventh form; the later family's looks); each row that meets fmt, with fmt's text TOLD by the authors' own Lean function (tested against real Go, not proved from fmt's source: count such statements apart). THE CARD IS WHAT COUNTS. Prove the row's statement (the work); the ties are given (YtonghiaocpenaaaGreatDoorTie.lean); close each card by the builder's one call (the guide's Derived/Test/ToyasCard.lean, 'card_holds'). Laid BY PROGRAM, IN A SANDBOX (cutbox-door.mjs). By AI agents, Wed Nov 11 2026. No macro, syntax, notation, axiom, sorry.
-/
import Derived.Test.YtonghiaocpenaaaGreatDoorRows
import GoSem.ClaimSeven
namespace Go.Proofs.YtonghiaocpenaaaGreatDoor
namespace Rows

/-- THE TIED CARD OF 'joistlaw03.CodecCells'. -/
def codecCellsCard : Claim7 := { stood := { row := codecCellsRow, standIns := [], harness := (true, "8c3f799b3882505051ac0eaf4b590a2668745e4c976ecfc57e5ff6101473391b"), looks := true }, kinds := [], alts := [], laidByText := true, laidKinds := [.data, .sentinel, .pinned], laidTests := true, laidLooks := .later }
def CodecCellsCardSaid : Prop := Claim7.holds Tryz.pinned (.plain (OpenSpec.ofChange codecCellsSpec)) codecCellsCard

/-- THE TIED CARD OF 'joistlaw03.CodecReads'. -/
def codecReadsCard : Claim7 := { stood := { row := codecReadsRow, standIns := [], harness := (true, "8c3f799b3882505051ac0eaf4b590a2668745e4c976ecfc57e5ff6101473391b"), looks := true }, kinds := [], alts := [], laidByText := true, laidKinds := [.data, .sentinel, .pinned], laidTests := true, laidLooks := .later }
def CodecReadsCardSaid : Prop := Claim7.holds Tryz.pinned (.plain (OpenSpec.ofChange codecReadsSpec)) codecReadsCard

/-- THE SECOND FORM's CARD OF 'joistlaw03.CodecCells'. -/
def codecCellsUptoCard : Claim7 := { stood := { row := codecCellsUptoRow, standIns := [], harness := (true, "8c3f799b3882505051ac0eaf4b590a2668745e4c976ecfc57e5ff6101473391b"), looks := true }, kinds := [], alts := [], laidByText := true, laidKinds := [.data, .sentinel, .pinned], laidTests := true, laidLooks := .later }
def CodecCellsUptoCardSaid : Prop := Claim7.holds Tryz.pinned (.plain (OpenSpec.upto codecCellsSpec)) codecCellsUptoCard

/-- THE SECOND FORM's CARD OF 'joistlaw03.CodecReads'. -/
def codecReadsUptoCard : Claim7 := { stood := { row := codecReadsUptoRow, standIns := [], harness := (true, "8c3f799b3882505051ac0eaf4b590a2668745e4c976ecfc57e5ff6101473391b"), looks := true }, kinds := [], alts := [], laidByText := true, laidKinds := [.data, .sentinel, .pinned], laidTests := true, laidLooks := .later }
def CodecReadsUptoCardSaid : Prop := Claim7.holds Tryz.pinned (.plain (OpenSpec.upto codecReadsSpec)) codecReadsUptoCard
end Rows
end Go.Proofs.YtonghiaocpenaaaGreatDoor
