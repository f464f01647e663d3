/-
  NARROWER THAN 'FOR EVERY INPUT', by the rows' own cells (each row's printed sentence says how): MergeCalls: laid · MergeOne: laid · MergeParts: laid · MergeSkips: laid · MergeHalves: laid.
  DERIVED. THE GIVEN ROWS OF THIS SEAT. 5 by the template 'for every input the law returns true; each argument reads behind the call as it read before'; 0 by the template 'total and deterministic' (their statements: YtmabmnkdigdaiaaDoorTotals.lean).
  GIVEN WITH THE SEED: the statements are not yours to turn. If you find one false, say at which input.
  Laid BY PROGRAM, IN A SANDBOX (cutbox-rows.mjs): the forced cells as the released guide's own fill.sh prints them over the translation c3f346883294e20b… (all of the seat's roots in one cut). By AI agents, Wed Nov 11 2026. No macro, syntax, notation, axiom, sorry.
-/
import Derived.Test.YtmabmnkdigdaiaaDoorChecked
import GoSem.PinnedTables
import GoSem.Claim
import GoSem.ClaimJoined
import GoSem.ClaimMapViews
import Derived.JoinedTies
import Derived.KernelRfl
namespace Go.Proofs.YtmabmnkdigdaiaaDoor
/- THE CELL 'sum', in the pinned program and in every row, IS THE sha256 OF THE DUMP (.gsa) THAT YtmabmnkdigdaiaaDoorProg.lean LOADS. Nothing in Lean hashes anything: it is a label: what it is worth is what the hold of that sum in a sandbox is worth. -/
noncomputable def Tryd.pinned : Pinned := { name := "ytmabmnkdigdaiaadoor", sum := "c3f346883294e20b2f84c3b52f526081c28c0ee3e6512cda8bf4f0fb748b7a2f", checked := Tryd.checked }
namespace Rows
def none {H : Type} : Left H := { results := [], args := [] }

/- WHAT THE LISTED PACKAGE-LEVEL VARIABLES READ AS WHEN THE CALL BEGINS. Each datum BY PROGRAM (the guide's laid-datum.mjs) off the statement by which the dump's own 'gosem.cut.vars' lays the variable. In a bare row this is a premise. The card (YtmabmnkdigdaiaaDoorCards.lean) ties it to the program's text. -/
def laid_unicode_utf8_acceptRanges {H : Type} : DataW H := .agg [.agg [.lit (.int .u8 128), .lit (.int .u8 191)], .agg [.lit (.int .u8 160), .lit (.int .u8 191)], .agg [.lit (.int .u8 128), .lit (.int .u8 159)], .agg [.lit (.int .u8 144), .lit (.int .u8 191)], .agg [.lit (.int .u8 128), .lit (.int .u8 143)], .agg [.lit (.int .u8 0), .lit (.int .u8 0)], .agg [.lit (.int .u8 0), .lit (.int .u8 0)], .agg [.lit (.int .u8 0), .lit (.int .u8 0)], .agg [.lit (.int .u8 0), .lit (.int .u8 0)], .agg [.lit (.int .u8 0), .lit (.int .u8 0)], .agg [.lit (.int .u8 0), .lit (.int .u8 0)], .agg [.lit (.int .u8 0), .lit (.int .u8 0)], .agg [.lit (.int .u8 0), .lit (.int .u8 0)], .agg [.lit (.int .u8 0), .lit (.int .u8 0)], .agg [.lit (.int .u8 0), .lit (.int .u8 0)], .agg [.lit (.int .u8 0), .lit (.int .u8 0)]]
/-- One of Go's own tables, pinned by name: the form's constant. -/
def laid_unicode_utf8_first : DataW Unit := Go.Pinned.utf8First

/-- 'joistlaw10.MergeCalls': WHATEVER THE INPUT: true; the input reads as it did. -/
def mergeCallsSpec : ChangeSpec := { name := "mergeCalls", fn := fun _ => fun
  | [d1, d2, d3] => { results := [.lit (.bool true)], args := [d1, d2, d3] }
  | _ => none }
def mergeCallsRow : OpenClaim := { program := "ytmabmnkdigdaiaadoor", sum := "c3f346883294e20b2f84c3b52f526081c28c0ee3e6512cda8bf4f0fb748b7a2f", func := "joist/joistlaw10.MergeCalls", spec := "mergeCalls", inPlace := ["internal/bytealg.abigen_runtime_cmpstring"], unfollowed := true, recurses := true, named := ["unicode/utf8.first", "unicode/utf8.acceptRanges"], apart := false, laid := [("unicode/utf8.acceptRanges", laid_unicode_utf8_acceptRanges), ("unicode/utf8.first", laid_unicode_utf8_first)] }
def MergeCallsSaid : Prop := mergeCallsRow.holds Tryd.pinned (OpenSpec.ofChange mergeCallsSpec)

/-- ITS FALSE NEIGHBOUR: 'it returns false'. Refute it at one input. -/
def mergeCallsWrong : ChangeSpec := { name := "mergeCalls", fn := fun _ => fun
  | [d1, d2, d3] => { results := [.lit (.bool false)], args := [d1, d2, d3] }
  | _ => none }
def MergeCallsWrongFalsely : Prop := mergeCallsRow.holds Tryd.pinned (OpenSpec.ofChange mergeCallsWrong)

/-- 'joistlaw10.MergeOne': WHATEVER THE INPUT: true; the input reads as it did. -/
def mergeOneSpec : ChangeSpec := { name := "mergeOne", fn := fun _ => fun
  | [d] => { results := [.lit (.bool true)], args := [d] }
  | _ => none }
def mergeOneRow : OpenClaim := { program := "ytmabmnkdigdaiaadoor", sum := "c3f346883294e20b2f84c3b52f526081c28c0ee3e6512cda8bf4f0fb748b7a2f", func := "joist/joistlaw10.MergeOne", spec := "mergeOne", inPlace := ["internal/bytealg.abigen_runtime_cmpstring"], unfollowed := true, recurses := true, named := ["unicode/utf8.first", "unicode/utf8.acceptRanges"], apart := false, laid := [("unicode/utf8.acceptRanges", laid_unicode_utf8_acceptRanges), ("unicode/utf8.first", laid_unicode_utf8_first)] }
def MergeOneSaid : Prop := mergeOneRow.holds Tryd.pinned (OpenSpec.ofChange mergeOneSpec)

/-- ITS FALSE NEIGHBOUR: 'it returns false'. Refute it at one input. -/
def mergeOneWrong : ChangeSpec := { name := "mergeOne", fn := fun _ => fun
  | [d] => { results := [.lit (.bool false)], args := [d] }
  | _ => none }
def MergeOneWrongFalsely : Prop := mergeOneRow.holds Tryd.pinned (OpenSpec.ofChange mergeOneWrong)

/-- 'joistlaw10.MergeParts': WHATEVER THE INPUT: true; the input reads as it did. -/
def mergePartsSpec : ChangeSpec := { name := "mergeParts", fn := fun _ => fun
  | [d1, d2] => { results := [.lit (.bool true)], args := [d1, d2] }
  | _ => none }
def mergePartsRow : OpenClaim := { program := "ytmabmnkdigdaiaadoor", sum := "c3f346883294e20b2f84c3b52f526081c28c0ee3e6512cda8bf4f0fb748b7a2f", func := "joist/joistlaw10.MergeParts", spec := "mergeParts", inPlace := ["internal/bytealg.abigen_runtime_cmpstring"], unfollowed := true, recurses := true, named := ["unicode/utf8.first", "unicode/utf8.acceptRanges"], apart := false, laid := [("unicode/utf8.acceptRanges", laid_unicode_utf8_acceptRanges), ("unicode/utf8.first", laid_unicode_utf8_first)] }
def MergePartsSaid : Prop := mergePartsRow.holds Tryd.pinned (OpenSpec.ofChange mergePartsSpec)

/-- ITS FALSE NEIGHBOUR: 'it returns false'. Refute it at one input. -/
def mergePartsWrong : ChangeSpec := { name := "mergeParts", fn := fun _ => fun
  | [d1, d2] => { results := [.lit (.bool false)], args := [d1, d2] }
  | _ => none }
def MergePartsWrongFalsely : Prop := mergePartsRow.holds Tryd.pinned (OpenSpec.ofChange mergePartsWrong)

/-- 'joistlaw10.MergeSkips': WHATEVER THE INPUT: true; the input reads as it did. -/
def mergeSkipsSpec : ChangeSpec := { name := "mergeSkips", fn := fun _ => fun
  | [d1, d2] => { results := [.lit (.bool true)], args := [d1, d2] }
  | _ => none }
def mergeSkipsRow : OpenClaim := { program := "ytmabmnkdigdaiaadoor", sum := "c3f346883294e20b2f84c3b52f526081c28c0ee3e6512cda8bf4f0fb748b7a2f", func := "joist/joistlaw10.MergeSkips", spec := "mergeSkips", inPlace := ["internal/bytealg.abigen_runtime_cmpstring"], unfollowed := true, recurses := true, named := ["unicode/utf8.first", "unicode/utf8.acceptRanges"], apart := false, laid := [("unicode/utf8.acceptRanges", laid_unicode_utf8_acceptRanges), ("unicode/utf8.first", laid_unicode_utf8_first)] }
def MergeSkipsSaid : Prop := mergeSkipsRow.holds Tryd.pinned (OpenSpec.ofChange mergeSkipsSpec)

/-- ITS FALSE NEIGHBOUR: 'it returns false'. Refute it at one input. -/
def mergeSkipsWrong : ChangeSpec := { name := "mergeSkips", fn := fun _ => fun
  | [d1, d2] => { results := [.lit (.bool false)], args := [d1, d2] }
  | _ => none }
def MergeSkipsWrongFalsely : Prop := mergeSkipsRow.holds Tryd.pinned (OpenSpec.ofChange mergeSkipsWrong)

/-- 'joistlaw10.MergeHalves': WHATEVER THE INPUT: true; the input reads as it did. -/
def mergeHalvesSpec : ChangeSpec := { name := "mergeHalves", fn := fun _ => fun
  | [d1, d2] => { results := [.lit (.bool true)], args := [d1, d2] }
  | _ => none }
def mergeHalvesRow : OpenClaim := { program := "ytmabmnkdigdaiaadoor", sum := "c3f346883294e20b2f84c3b52f526081c28c0ee3e6512cda8bf4f0fb748b7a2f", func := "joist/joistlaw10.MergeHalves", spec := "mergeHalves", inPlace := ["internal/bytealg.abigen_runtime_cmpstring"], unfollowed := true, recurses := true, named := ["unicode/utf8.first", "unicode/utf8.acceptRanges"], apart := false, laid := [("unicode/utf8.acceptRanges", laid_unicode_utf8_acceptRanges), ("unicode/utf8.first", laid_unicode_utf8_first)] }
def MergeHalvesSaid : Prop := mergeHalvesRow.holds Tryd.pinned (OpenSpec.ofChange mergeHalvesSpec)

/-- ITS FALSE NEIGHBOUR: 'it returns false'. Refute it at one input. -/
def mergeHalvesWrong : ChangeSpec := { name := "mergeHalves", fn := fun _ => fun
  | [d1, d2] => { results := [.lit (.bool false)], args := [d1, d2] }
  | _ => none }
def MergeHalvesWrongFalsely : Prop := mergeHalvesRow.holds Tryd.pinned (OpenSpec.ofChange mergeHalvesWrong)

/- THE SECOND FORM. 'bulk': how many values and letters a reading holds, each counted each time it is reached (what is shared counts as often as it is met; a slice's spare places count too). A statement '..UptoSaid' is the law's where the arguments, and the package variables that the reading takes, are together of bulk at most 1048576: NARROWER than '..Said'. Prove '..Said' where nothing that the law and all that it calls make is longer than what came in: it says more and counts as full. Else prove '..UptoSaid'. A law counts once. -/
mutual
def uptoBulk {H : Type} : DataW H → Nat
  | .lit (.string bytes) => bytes.length + 1
  | .lit _ => 1
  | .nil => 1
  | .ptr d => uptoBulk d + 1
  | .slice elems spare => uptoBulkAll elems + uptoBulkAll spare + 1
  | .agg parts => uptoBulkAll parts + 1
  | .iface _ d => uptoBulk d + 1
  | .map entries => uptoBulkEntries entries + 1
  | .held _ => 1
def uptoBulkAll {H : Type} : List (DataW H) → Nat
  | [] => 0
  | d :: r => uptoBulk d + uptoBulkAll r
def uptoBulkEntries {H : Type} : List (Lit × DataW H) → Nat
  | [] => 0
  | x :: r => uptoBulkEntry x + uptoBulkEntries r
def uptoBulkEntry {H : Type} : Lit × DataW H → Nat
  | (.string bytes, d) => bytes.length + uptoBulk d + 1
  | (_, d) => uptoBulk d + 1
 end
def uptoSmall : (H : Type) → List (DataW H) → Bool := fun _ ds => decide (uptoBulkAll ds ≤ 1048576)
def OpenSpec.upto (s : _root_.Go.ChangeSpec) : _root_.Go.OpenSpec := { _root_.Go.OpenSpec.ofChange s with cond := some uptoSmall }

/-- 'joistlaw10.MergeCalls', WHERE WHAT IT READS IS OF BULK AT MOST 1048576: true; the input reads as it did. -/
def mergeCallsUptoRow : OpenClaim := { program := "ytmabmnkdigdaiaadoor", sum := "c3f346883294e20b2f84c3b52f526081c28c0ee3e6512cda8bf4f0fb748b7a2f", func := "joist/joistlaw10.MergeCalls", spec := "mergeCalls", inPlace := ["internal/bytealg.abigen_runtime_cmpstring"], unfollowed := true, recurses := true, named := ["unicode/utf8.first", "unicode/utf8.acceptRanges"], apart := false, laid := [("unicode/utf8.acceptRanges", laid_unicode_utf8_acceptRanges), ("unicode/utf8.first", laid_unicode_utf8_first)], narrowed := true }
def MergeCallsUptoSaid : Prop := mergeCallsUptoRow.holds Tryd.pinned (OpenSpec.upto mergeCallsSpec)

/-- 'joistlaw10.MergeOne', WHERE WHAT IT READS IS OF BULK AT MOST 1048576: true; the input reads as it did. -/
def mergeOneUptoRow : OpenClaim := { program := "ytmabmnkdigdaiaadoor", sum := "c3f346883294e20b2f84c3b52f526081c28c0ee3e6512cda8bf4f0fb748b7a2f", func := "joist/joistlaw10.MergeOne", spec := "mergeOne", inPlace := ["internal/bytealg.abigen_runtime_cmpstring"], unfollowed := true, recurses := true, named := ["unicode/utf8.first", "unicode/utf8.acceptRanges"], apart := false, laid := [("unicode/utf8.acceptRanges", laid_unicode_utf8_acceptRanges), ("unicode/utf8.first", laid_unicode_utf8_first)], narrowed := true }
def MergeOneUptoSaid : Prop := mergeOneUptoRow.holds Tryd.pinned (OpenSpec.upto mergeOneSpec)

/-- 'joistlaw10.MergeParts', WHERE WHAT IT READS IS OF BULK AT MOST 1048576: true; the input reads as it did. -/
def mergePartsUptoRow : OpenClaim := { program := "ytmabmnkdigdaiaadoor", sum := "c3f346883294e20b2f84c3b52f526081c28c0ee3e6512cda8bf4f0fb748b7a2f", func := "joist/joistlaw10.MergeParts", spec := "mergeParts", inPlace := ["internal/bytealg.abigen_runtime_cmpstring"], unfollowed := true, recurses := true, named := ["unicode/utf8.first", "unicode/utf8.acceptRanges"], apart := false, laid := [("unicode/utf8.acceptRanges", laid_unicode_utf8_acceptRanges), ("unicode/utf8.first", laid_unicode_utf8_first)], narrowed := true }
def MergePartsUptoSaid : Prop := mergePartsUptoRow.holds Tryd.pinned (OpenSpec.upto mergePartsSpec)

/-- 'joistlaw10.MergeSkips', WHERE WHAT IT READS IS OF BULK AT MOST 1048576: true; the input reads as it did. -/
def mergeSkipsUptoRow : OpenClaim := { program := "ytmabmnkdigdaiaadoor", sum := "c3f346883294e20b2f84c3b52f526081c28c0ee3e6512cda8bf4f0fb748b7a2f", func := "joist/joistlaw10.MergeSkips", spec := "mergeSkips", inPlace := ["internal/bytealg.abigen_runtime_cmpstring"], unfollowed := true, recurses := true, named := ["unicode/utf8.first", "unicode/utf8.acceptRanges"], apart := false, laid := [("unicode/utf8.acceptRanges", laid_unicode_utf8_acceptRanges), ("unicode/utf8.first", laid_unicode_utf8_first)], narrowed := true }
def MergeSkipsUptoSaid : Prop := mergeSkipsUptoRow.holds Tryd.pinned (OpenSpec.upto mergeSkipsSpec)

/-- 'joistlaw10.MergeHalves', WHERE WHAT IT READS IS OF BULK AT MOST 1048576: true; the input reads as it did. -/
def mergeHalvesUptoRow : OpenClaim := { program := "ytmabmnkdigdaiaadoor", sum := "c3f346883294e20b2f84c3b52f526081c28c0ee3e6512cda8bf4f0fb748b7a2f", func := "joist/joistlaw10.MergeHalves", spec := "mergeHalves", inPlace := ["internal/bytealg.abigen_runtime_cmpstring"], unfollowed := true, recurses := true, named := ["unicode/utf8.first", "unicode/utf8.acceptRanges"], apart := false, laid := [("unicode/utf8.acceptRanges", laid_unicode_utf8_acceptRanges), ("unicode/utf8.first", laid_unicode_utf8_first)], narrowed := true }
def MergeHalvesUptoSaid : Prop := mergeHalvesUptoRow.holds Tryd.pinned (OpenSpec.upto mergeHalvesSpec)

end Rows
end Go.Proofs.YtmabmnkdigdaiaaDoor
