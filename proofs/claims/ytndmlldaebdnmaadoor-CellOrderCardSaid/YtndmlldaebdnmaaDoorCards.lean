/-
  DERIVED. GIVEN WITH THE SEED: THE CARDS: each row of YtndmlldaebdnmaaDoorRows.lean that lists a variable, with what it lists TIED to the program's text (the seventh form; the later family's looks); each row that meets fmt, with fmt's text TOLD by the authors' own Lean function (tested against real Go, not proved from fmt's source: count such statements apart). THE CARD IS WHAT COUNTS. Prove the row's statement (the work); the ties are given (YtndmlldaebdnmaaDoorTie.lean); close each card by the builder's one call (the guide's Derived/Test/ToyasCard.lean, 'card_holds'). Laid BY PROGRAM, IN A SANDBOX (cutbox-door.mjs). By AI agents, Wed Nov 11 2026. No macro, syntax, notation, axiom, sorry.
-/
import Derived.Test.YtndmlldaebdnmaaDoorRows
import GoSem.ClaimSeven
namespace Go.Proofs.YtndmlldaebdnmaaDoor
namespace Rows

/-- THE TIED CARD OF 'joistlaw06.CellOrder'. -/
def cellOrderCard : Claim7 := { stood := { row := cellOrderRow, standIns := [], harness := (true, "bc33218b2db05a4d5f4bb1935fa1de9382034d9534d145a04c2074a93434af6e"), looks := false }, kinds := [], alts := [], laidByText := true, laidKinds := [.data, .pinned], laidTests := true, laidLooks := .later }
def CellOrderCardSaid : Prop := Claim7.holds Tryd.pinned (.plain (OpenSpec.ofChange cellOrderSpec)) cellOrderCard

/-- THE TIED CARD OF 'joistlaw06.CellSame'. -/
def cellSameCard : Claim7 := { stood := { row := cellSameRow, standIns := [], harness := (true, "bc33218b2db05a4d5f4bb1935fa1de9382034d9534d145a04c2074a93434af6e"), looks := false }, kinds := [], alts := [], laidByText := true, laidKinds := [.data, .pinned], laidTests := true, laidLooks := .later }
def CellSameCardSaid : Prop := Claim7.holds Tryd.pinned (.plain (OpenSpec.ofChange cellSameSpec)) cellSameCard

/-- THE TIED CARD OF 'joistlaw06.CellGone'. -/
def cellGoneCard : Claim7 := { stood := { row := cellGoneRow, standIns := [], harness := (true, "bc33218b2db05a4d5f4bb1935fa1de9382034d9534d145a04c2074a93434af6e"), looks := false }, kinds := [], alts := [], laidByText := true, laidKinds := [.data, .pinned], laidTests := true, laidLooks := .later }
def CellGoneCardSaid : Prop := Claim7.holds Tryd.pinned (.plain (OpenSpec.ofChange cellGoneSpec)) cellGoneCard

/-- THE TIED CARD OF 'joistlaw06.CellFew'. -/
def cellFewCard : Claim7 := { stood := { row := cellFewRow, standIns := [], harness := (true, "bc33218b2db05a4d5f4bb1935fa1de9382034d9534d145a04c2074a93434af6e"), looks := false }, kinds := [], alts := [], laidByText := true, laidKinds := [.data, .pinned], laidTests := true, laidLooks := .later }
def CellFewCardSaid : Prop := Claim7.holds Tryd.pinned (.plain (OpenSpec.ofChange cellFewSpec)) cellFewCard

/-- THE TIED CARD OF 'joistlaw06.CellApart'. -/
def cellApartCard : Claim7 := { stood := { row := cellApartRow, standIns := [], harness := (true, "bc33218b2db05a4d5f4bb1935fa1de9382034d9534d145a04c2074a93434af6e"), looks := false }, kinds := [], alts := [], laidByText := true, laidKinds := [.data, .pinned], laidTests := true, laidLooks := .later }
def CellApartCardSaid : Prop := Claim7.holds Tryd.pinned (.plain (OpenSpec.ofChange cellApartSpec)) cellApartCard

/-- THE TIED CARD OF 'joistlaw06.CellLess'. -/
def cellLessCard : Claim7 := { stood := { row := cellLessRow, standIns := [], harness := (true, "bc33218b2db05a4d5f4bb1935fa1de9382034d9534d145a04c2074a93434af6e"), looks := false }, kinds := [], alts := [], laidByText := true, laidKinds := [.data, .pinned], laidTests := true, laidLooks := .later }
def CellLessCardSaid : Prop := Claim7.holds Tryd.pinned (.plain (OpenSpec.ofChange cellLessSpec)) cellLessCard

/-- THE SECOND FORM's CARD OF 'joistlaw06.CellOrder'. -/
def cellOrderUptoCard : Claim7 := { stood := { row := cellOrderUptoRow, standIns := [], harness := (true, "bc33218b2db05a4d5f4bb1935fa1de9382034d9534d145a04c2074a93434af6e"), looks := false }, kinds := [], alts := [], laidByText := true, laidKinds := [.data, .pinned], laidTests := true, laidLooks := .later }
def CellOrderUptoCardSaid : Prop := Claim7.holds Tryd.pinned (.plain (OpenSpec.upto cellOrderSpec)) cellOrderUptoCard

/-- THE SECOND FORM's CARD OF 'joistlaw06.CellSame'. -/
def cellSameUptoCard : Claim7 := { stood := { row := cellSameUptoRow, standIns := [], harness := (true, "bc33218b2db05a4d5f4bb1935fa1de9382034d9534d145a04c2074a93434af6e"), looks := false }, kinds := [], alts := [], laidByText := true, laidKinds := [.data, .pinned], laidTests := true, laidLooks := .later }
def CellSameUptoCardSaid : Prop := Claim7.holds Tryd.pinned (.plain (OpenSpec.upto cellSameSpec)) cellSameUptoCard

/-- THE SECOND FORM's CARD OF 'joistlaw06.CellGone'. -/
def cellGoneUptoCard : Claim7 := { stood := { row := cellGoneUptoRow, standIns := [], harness := (true, "bc33218b2db05a4d5f4bb1935fa1de9382034d9534d145a04c2074a93434af6e"), looks := false }, kinds := [], alts := [], laidByText := true, laidKinds := [.data, .pinned], laidTests := true, laidLooks := .later }
def CellGoneUptoCardSaid : Prop := Claim7.holds Tryd.pinned (.plain (OpenSpec.upto cellGoneSpec)) cellGoneUptoCard

/-- THE SECOND FORM's CARD OF 'joistlaw06.CellFew'. -/
def cellFewUptoCard : Claim7 := { stood := { row := cellFewUptoRow, standIns := [], harness := (true, "bc33218b2db05a4d5f4bb1935fa1de9382034d9534d145a04c2074a93434af6e"), looks := false }, kinds := [], alts := [], laidByText := true, laidKinds := [.data, .pinned], laidTests := true, laidLooks := .later }
def CellFewUptoCardSaid : Prop := Claim7.holds Tryd.pinned (.plain (OpenSpec.upto cellFewSpec)) cellFewUptoCard

/-- THE SECOND FORM's CARD OF 'joistlaw06.CellApart'. -/
def cellApartUptoCard : Claim7 := { stood := { row := cellApartUptoRow, standIns := [], harness := (true, "bc33218b2db05a4d5f4bb1935fa1de9382034d9534d145a04c2074a93434af6e"), looks := false }, kinds := [], alts := [], laidByText := true, laidKinds := [.data, .pinned], laidTests := true, laidLooks := .later }
def CellApartUptoCardSaid : Prop := Claim7.holds Tryd.pinned (.plain (OpenSpec.upto cellApartSpec)) cellApartUptoCard

/-- THE SECOND FORM's CARD OF 'joistlaw06.CellLess'. -/
def cellLessUptoCard : Claim7 := { stood := { row := cellLessUptoRow, standIns := [], harness := (true, "bc33218b2db05a4d5f4bb1935fa1de9382034d9534d145a04c2074a93434af6e"), looks := false }, kinds := [], alts := [], laidByText := true, laidKinds := [.data, .pinned], laidTests := true, laidLooks := .later }
def CellLessUptoCardSaid : Prop := Claim7.holds Tryd.pinned (.plain (OpenSpec.upto cellLessSpec)) cellLessUptoCard
end Rows
end Go.Proofs.YtndmlldaebdnmaaDoor
