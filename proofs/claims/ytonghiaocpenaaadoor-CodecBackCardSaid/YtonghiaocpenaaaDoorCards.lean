/-
  DERIVED. GIVEN WITH THE SEED: THE CARDS: each row of YtonghiaocpenaaaDoorRows.lean that lists a variable, with what it lists TIED to the program's text (the seventh form; the later family's looks); each row that meets fmt, with fmt's text TOLD by the authors' own Lean function (tested against real Go, not proved from fmt's source: count such statements apart). THE CARD IS WHAT COUNTS. Prove the row's statement (the work); the ties are given (YtonghiaocpenaaaDoorTie.lean); close each card by the builder's one call (the guide's Derived/Test/ToyasCard.lean, 'card_holds'). Laid BY PROGRAM, IN A SANDBOX (cutbox-door.mjs). By AI agents, Wed Nov 11 2026. No macro, syntax, notation, axiom, sorry.
-/
import Derived.Test.YtonghiaocpenaaaDoorRows
import GoSem.ClaimSeven
namespace Go.Proofs.YtonghiaocpenaaaDoor
namespace Rows

/-- THE TIED CARD OF 'joistlaw03.CodecOrder'. -/
def codecOrderCard : Claim7 := { stood := { row := codecOrderRow, standIns := [], harness := (true, "adcacd51b49a53bc3e17f9f3d22d4886ddc21655e0e79ca9ec917dde3458815c"), looks := true }, kinds := [], alts := [], laidByText := true, laidKinds := [.data, .sentinel, .pinned], laidTests := true, laidLooks := .later }
def CodecOrderCardSaid : Prop := Claim7.holds Tryd.pinned (.plain (OpenSpec.ofChange codecOrderSpec)) codecOrderCard

/-- THE TIED CARD OF 'joistlaw03.CodecLate'. -/
def codecLateCard : Claim7 := { stood := { row := codecLateRow, standIns := [], harness := (true, "adcacd51b49a53bc3e17f9f3d22d4886ddc21655e0e79ca9ec917dde3458815c"), looks := true }, kinds := [], alts := [], laidByText := true, laidKinds := [.data, .sentinel, .pinned], laidTests := true, laidLooks := .later }
def CodecLateCardSaid : Prop := Claim7.holds Tryd.pinned (.plain (OpenSpec.ofChange codecLateSpec)) codecLateCard

/-- THE TIED CARD OF 'joistlaw03.CodecRows'. -/
def codecRowsCard : Claim7 := { stood := { row := codecRowsRow, standIns := [], harness := (true, "adcacd51b49a53bc3e17f9f3d22d4886ddc21655e0e79ca9ec917dde3458815c"), looks := true }, kinds := [], alts := [], laidByText := true, laidKinds := [.data, .sentinel, .pinned], laidTests := true, laidLooks := .later }
def CodecRowsCardSaid : Prop := Claim7.holds Tryd.pinned (.plain (OpenSpec.ofChange codecRowsSpec)) codecRowsCard

/-- THE TIED CARD OF 'joistlaw03.CodecBack'. -/
def codecBackCard : Claim7 := { stood := { row := codecBackRow, standIns := [], harness := (true, "adcacd51b49a53bc3e17f9f3d22d4886ddc21655e0e79ca9ec917dde3458815c"), looks := true }, kinds := [], alts := [], laidByText := true, laidKinds := [.data, .sentinel, .pinned], laidTests := true, laidLooks := .later }
def CodecBackCardSaid : Prop := Claim7.holds Tryd.pinned (.plain (OpenSpec.ofChange codecBackSpec)) codecBackCard

/-- THE SECOND FORM's CARD OF 'joistlaw03.CodecOrder'. -/
def codecOrderUptoCard : Claim7 := { stood := { row := codecOrderUptoRow, standIns := [], harness := (true, "adcacd51b49a53bc3e17f9f3d22d4886ddc21655e0e79ca9ec917dde3458815c"), looks := true }, kinds := [], alts := [], laidByText := true, laidKinds := [.data, .sentinel, .pinned], laidTests := true, laidLooks := .later }
def CodecOrderUptoCardSaid : Prop := Claim7.holds Tryd.pinned (.plain (OpenSpec.upto codecOrderSpec)) codecOrderUptoCard

/-- THE SECOND FORM's CARD OF 'joistlaw03.CodecLate'. -/
def codecLateUptoCard : Claim7 := { stood := { row := codecLateUptoRow, standIns := [], harness := (true, "adcacd51b49a53bc3e17f9f3d22d4886ddc21655e0e79ca9ec917dde3458815c"), looks := true }, kinds := [], alts := [], laidByText := true, laidKinds := [.data, .sentinel, .pinned], laidTests := true, laidLooks := .later }
def CodecLateUptoCardSaid : Prop := Claim7.holds Tryd.pinned (.plain (OpenSpec.upto codecLateSpec)) codecLateUptoCard

/-- THE SECOND FORM's CARD OF 'joistlaw03.CodecRows'. -/
def codecRowsUptoCard : Claim7 := { stood := { row := codecRowsUptoRow, standIns := [], harness := (true, "adcacd51b49a53bc3e17f9f3d22d4886ddc21655e0e79ca9ec917dde3458815c"), looks := true }, kinds := [], alts := [], laidByText := true, laidKinds := [.data, .sentinel, .pinned], laidTests := true, laidLooks := .later }
def CodecRowsUptoCardSaid : Prop := Claim7.holds Tryd.pinned (.plain (OpenSpec.upto codecRowsSpec)) codecRowsUptoCard

/-- THE SECOND FORM's CARD OF 'joistlaw03.CodecBack'. -/
def codecBackUptoCard : Claim7 := { stood := { row := codecBackUptoRow, standIns := [], harness := (true, "adcacd51b49a53bc3e17f9f3d22d4886ddc21655e0e79ca9ec917dde3458815c"), looks := true }, kinds := [], alts := [], laidByText := true, laidKinds := [.data, .sentinel, .pinned], laidTests := true, laidLooks := .later }
def CodecBackUptoCardSaid : Prop := Claim7.holds Tryd.pinned (.plain (OpenSpec.upto codecBackSpec)) codecBackUptoCard
end Rows
end Go.Proofs.YtonghiaocpenaaaDoor
