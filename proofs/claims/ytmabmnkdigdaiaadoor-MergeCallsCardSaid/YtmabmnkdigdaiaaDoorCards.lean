/-
  DERIVED. GIVEN WITH THE SEED: THE CARDS: each row of YtmabmnkdigdaiaaDoorRows.lean that lists a variable, with what it lists TIED to the program's text (the seventh form; the later family's looks); each row that meets fmt, with fmt's text TOLD by the authors' own Lean function (tested against real Go, not proved from fmt's source: count such statements apart). THE CARD IS WHAT COUNTS. Prove the row's statement (the work); the ties are given (YtmabmnkdigdaiaaDoorTie.lean); close each card by the builder's one call (the guide's Derived/Test/ToyasCard.lean, 'card_holds'). Laid BY PROGRAM, IN A SANDBOX (cutbox-door.mjs). By AI agents, Wed Nov 11 2026. No macro, syntax, notation, axiom, sorry.
-/
import Derived.Test.YtmabmnkdigdaiaaDoorRows
import GoSem.ClaimSeven
namespace Go.Proofs.YtmabmnkdigdaiaaDoor
namespace Rows

/-- THE TIED CARD OF 'joistlaw10.MergeCalls'. -/
def mergeCallsCard : Claim7 := { stood := { row := mergeCallsRow, standIns := [], harness := (true, "e8b1dbf25b3c415b3be77c5e98df3f2a49c3be746ca9ad01cdb40db3da66a1e4"), looks := false }, kinds := [], alts := [], laidByText := true, laidKinds := [.data, .pinned], laidTests := true, laidLooks := .later }
def MergeCallsCardSaid : Prop := Claim7.holds Tryd.pinned (.plain (OpenSpec.ofChange mergeCallsSpec)) mergeCallsCard

/-- THE TIED CARD OF 'joistlaw10.MergeOne'. -/
def mergeOneCard : Claim7 := { stood := { row := mergeOneRow, standIns := [], harness := (true, "e8b1dbf25b3c415b3be77c5e98df3f2a49c3be746ca9ad01cdb40db3da66a1e4"), looks := false }, kinds := [], alts := [], laidByText := true, laidKinds := [.data, .pinned], laidTests := true, laidLooks := .later }
def MergeOneCardSaid : Prop := Claim7.holds Tryd.pinned (.plain (OpenSpec.ofChange mergeOneSpec)) mergeOneCard

/-- THE TIED CARD OF 'joistlaw10.MergeParts'. -/
def mergePartsCard : Claim7 := { stood := { row := mergePartsRow, standIns := [], harness := (true, "e8b1dbf25b3c415b3be77c5e98df3f2a49c3be746ca9ad01cdb40db3da66a1e4"), looks := false }, kinds := [], alts := [], laidByText := true, laidKinds := [.data, .pinned], laidTests := true, laidLooks := .later }
def MergePartsCardSaid : Prop := Claim7.holds Tryd.pinned (.plain (OpenSpec.ofChange mergePartsSpec)) mergePartsCard

/-- THE TIED CARD OF 'joistlaw10.MergeSkips'. -/
def mergeSkipsCard : Claim7 := { stood := { row := mergeSkipsRow, standIns := [], harness := (true, "e8b1dbf25b3c415b3be77c5e98df3f2a49c3be746ca9ad01cdb40db3da66a1e4"), looks := false }, kinds := [], alts := [], laidByText := true, laidKinds := [.data, .pinned], laidTests := true, laidLooks := .later }
def MergeSkipsCardSaid : Prop := Claim7.holds Tryd.pinned (.plain (OpenSpec.ofChange mergeSkipsSpec)) mergeSkipsCard

/-- THE TIED CARD OF 'joistlaw10.MergeHalves'. -/
def mergeHalvesCard : Claim7 := { stood := { row := mergeHalvesRow, standIns := [], harness := (true, "e8b1dbf25b3c415b3be77c5e98df3f2a49c3be746ca9ad01cdb40db3da66a1e4"), looks := false }, kinds := [], alts := [], laidByText := true, laidKinds := [.data, .pinned], laidTests := true, laidLooks := .later }
def MergeHalvesCardSaid : Prop := Claim7.holds Tryd.pinned (.plain (OpenSpec.ofChange mergeHalvesSpec)) mergeHalvesCard

/-- THE SECOND FORM's CARD OF 'joistlaw10.MergeCalls'. -/
def mergeCallsUptoCard : Claim7 := { stood := { row := mergeCallsUptoRow, standIns := [], harness := (true, "e8b1dbf25b3c415b3be77c5e98df3f2a49c3be746ca9ad01cdb40db3da66a1e4"), looks := false }, kinds := [], alts := [], laidByText := true, laidKinds := [.data, .pinned], laidTests := true, laidLooks := .later }
def MergeCallsUptoCardSaid : Prop := Claim7.holds Tryd.pinned (.plain (OpenSpec.upto mergeCallsSpec)) mergeCallsUptoCard

/-- THE SECOND FORM's CARD OF 'joistlaw10.MergeOne'. -/
def mergeOneUptoCard : Claim7 := { stood := { row := mergeOneUptoRow, standIns := [], harness := (true, "e8b1dbf25b3c415b3be77c5e98df3f2a49c3be746ca9ad01cdb40db3da66a1e4"), looks := false }, kinds := [], alts := [], laidByText := true, laidKinds := [.data, .pinned], laidTests := true, laidLooks := .later }
def MergeOneUptoCardSaid : Prop := Claim7.holds Tryd.pinned (.plain (OpenSpec.upto mergeOneSpec)) mergeOneUptoCard

/-- THE SECOND FORM's CARD OF 'joistlaw10.MergeParts'. -/
def mergePartsUptoCard : Claim7 := { stood := { row := mergePartsUptoRow, standIns := [], harness := (true, "e8b1dbf25b3c415b3be77c5e98df3f2a49c3be746ca9ad01cdb40db3da66a1e4"), looks := false }, kinds := [], alts := [], laidByText := true, laidKinds := [.data, .pinned], laidTests := true, laidLooks := .later }
def MergePartsUptoCardSaid : Prop := Claim7.holds Tryd.pinned (.plain (OpenSpec.upto mergePartsSpec)) mergePartsUptoCard

/-- THE SECOND FORM's CARD OF 'joistlaw10.MergeSkips'. -/
def mergeSkipsUptoCard : Claim7 := { stood := { row := mergeSkipsUptoRow, standIns := [], harness := (true, "e8b1dbf25b3c415b3be77c5e98df3f2a49c3be746ca9ad01cdb40db3da66a1e4"), looks := false }, kinds := [], alts := [], laidByText := true, laidKinds := [.data, .pinned], laidTests := true, laidLooks := .later }
def MergeSkipsUptoCardSaid : Prop := Claim7.holds Tryd.pinned (.plain (OpenSpec.upto mergeSkipsSpec)) mergeSkipsUptoCard

/-- THE SECOND FORM's CARD OF 'joistlaw10.MergeHalves'. -/
def mergeHalvesUptoCard : Claim7 := { stood := { row := mergeHalvesUptoRow, standIns := [], harness := (true, "e8b1dbf25b3c415b3be77c5e98df3f2a49c3be746ca9ad01cdb40db3da66a1e4"), looks := false }, kinds := [], alts := [], laidByText := true, laidKinds := [.data, .pinned], laidTests := true, laidLooks := .later }
def MergeHalvesUptoCardSaid : Prop := Claim7.holds Tryd.pinned (.plain (OpenSpec.upto mergeHalvesSpec)) mergeHalvesUptoCard
end Rows
end Go.Proofs.YtmabmnkdigdaiaaDoor
