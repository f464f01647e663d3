/-
  No cell of these rows narrows 'for every input' (looked for: loops, veiled, ifaces, maps, wideKeys, modest, calm, conditions, laid).
  DERIVED. THE GIVEN ROWS OF THIS SEAT. 4 by the template 'for every input the law returns true; each argument reads behind the call as it read before'; 0 by the template 'total and deterministic' (their statements: YtideokbaenkijaaTotals.lean).
  GIVEN WITH THE SEED: the statements are not yours to turn. If you find one false, say at which input.
  Laid BY PROGRAM, IN A SANDBOX (cutbox-rows.mjs): the forced cells as the released guide's own fill.sh prints them over the translation 594a925750c20e30… (all of the seat's roots in one cut). By AI agents, Wed Nov 11 2026. No macro, syntax, notation, axiom, sorry.
-/
import Derived.Test.YtideokbaenkijaaChecked
import GoSem.Claim
import GoSem.ClaimJoined
import GoSem.ClaimMapViews
import Derived.JoinedTies
import Derived.KernelRfl
namespace Go.Proofs.Ytideokbaenkijaa
/- THE CELL 'sum', in the pinned program and in every row, IS THE sha256 OF THE DUMP (.gsa) THAT YtideokbaenkijaaProg.lean LOADS. Nothing in Lean hashes anything: it is a label: what it is worth is what the hold of that sum in a sandbox is worth. -/
noncomputable def Try.pinned : Pinned := { name := "ytideokbaenkijaa", sum := "594a925750c20e306a5b97c8b1efdbedd0e526c3bb6c7a2753006d97591e6f6d", checked := Try.checked }
namespace Rows
def none {H : Type} : Left H := { results := [], args := [] }

/-- 'joistlaw11.ManifestBytes': WHATEVER THE INPUT: true; the input reads as it did. -/
def manifestBytesSpec : ChangeSpec := { name := "manifestBytes", fn := fun _ => fun
  | [d1, d2] => { results := [.lit (.bool true)], args := [d1, d2] }
  | _ => none }
def manifestBytesRow : OpenClaim := { program := "ytideokbaenkijaa", sum := "594a925750c20e306a5b97c8b1efdbedd0e526c3bb6c7a2753006d97591e6f6d", func := "joist/joistlaw11.ManifestBytes", spec := "manifestBytes", unfollowed := true, recurses := true, apart := false }
def ManifestBytesSaid : Prop := manifestBytesRow.holds Try.pinned (OpenSpec.ofChange manifestBytesSpec)

/-- ITS FALSE NEIGHBOUR: 'it returns false'. Refute it at one input. -/
def manifestBytesWrong : ChangeSpec := { name := "manifestBytes", fn := fun _ => fun
  | [d1, d2] => { results := [.lit (.bool false)], args := [d1, d2] }
  | _ => none }
def ManifestBytesWrongFalsely : Prop := manifestBytesRow.holds Try.pinned (OpenSpec.ofChange manifestBytesWrong)

/-- 'joistlaw11.ManifestBits': WHATEVER THE INPUT: true; the input reads as it did. -/
def manifestBitsSpec : ChangeSpec := { name := "manifestBits", fn := fun _ => fun
  | [d1, d2] => { results := [.lit (.bool true)], args := [d1, d2] }
  | _ => none }
def manifestBitsRow : OpenClaim := { program := "ytideokbaenkijaa", sum := "594a925750c20e306a5b97c8b1efdbedd0e526c3bb6c7a2753006d97591e6f6d", func := "joist/joistlaw11.ManifestBits", spec := "manifestBits", unfollowed := true, recurses := true, apart := false }
def ManifestBitsSaid : Prop := manifestBitsRow.holds Try.pinned (OpenSpec.ofChange manifestBitsSpec)

/-- ITS FALSE NEIGHBOUR: 'it returns false'. Refute it at one input. -/
def manifestBitsWrong : ChangeSpec := { name := "manifestBits", fn := fun _ => fun
  | [d1, d2] => { results := [.lit (.bool false)], args := [d1, d2] }
  | _ => none }
def ManifestBitsWrongFalsely : Prop := manifestBitsRow.holds Try.pinned (OpenSpec.ofChange manifestBitsWrong)

/-- 'joistlaw11.ManifestRises': WHATEVER THE INPUT: true; the input reads as it did. -/
def manifestRisesSpec : ChangeSpec := { name := "manifestRises", fn := fun _ => fun
  | [d1, d2] => { results := [.lit (.bool true)], args := [d1, d2] }
  | _ => none }
def manifestRisesRow : OpenClaim := { program := "ytideokbaenkijaa", sum := "594a925750c20e306a5b97c8b1efdbedd0e526c3bb6c7a2753006d97591e6f6d", func := "joist/joistlaw11.ManifestRises", spec := "manifestRises", unfollowed := true, recurses := true, apart := false }
def ManifestRisesSaid : Prop := manifestRisesRow.holds Try.pinned (OpenSpec.ofChange manifestRisesSpec)

/-- ITS FALSE NEIGHBOUR: 'it returns false'. Refute it at one input. -/
def manifestRisesWrong : ChangeSpec := { name := "manifestRises", fn := fun _ => fun
  | [d1, d2] => { results := [.lit (.bool false)], args := [d1, d2] }
  | _ => none }
def ManifestRisesWrongFalsely : Prop := manifestRisesRow.holds Try.pinned (OpenSpec.ofChange manifestRisesWrong)

/-- 'joistlaw11.ManifestCrash': WHATEVER THE INPUT: true; the input reads as it did. -/
def manifestCrashSpec : ChangeSpec := { name := "manifestCrash", fn := fun _ => fun
  | [d1, d2] => { results := [.lit (.bool true)], args := [d1, d2] }
  | _ => none }
def manifestCrashRow : OpenClaim := { program := "ytideokbaenkijaa", sum := "594a925750c20e306a5b97c8b1efdbedd0e526c3bb6c7a2753006d97591e6f6d", func := "joist/joistlaw11.ManifestCrash", spec := "manifestCrash", unfollowed := true, recurses := true, apart := false }
def ManifestCrashSaid : Prop := manifestCrashRow.holds Try.pinned (OpenSpec.ofChange manifestCrashSpec)

/-- ITS FALSE NEIGHBOUR: 'it returns false'. Refute it at one input. -/
def manifestCrashWrong : ChangeSpec := { name := "manifestCrash", fn := fun _ => fun
  | [d1, d2] => { results := [.lit (.bool false)], args := [d1, d2] }
  | _ => none }
def ManifestCrashWrongFalsely : Prop := manifestCrashRow.holds Try.pinned (OpenSpec.ofChange manifestCrashWrong)

/- THE SECOND FORM. 'bulk': how many values and letters a reading holds, each counted each time it is reached (what is shared counts as often as it is met; a slice's spare places count too). A statement '..UptoSaid' is the law's where the arguments, and the package variables that the reading takes, are together of bulk at most 1048576: NARROWER than '..Said'. Prove '..Said' where nothing that the law and all that it calls make is longer than what came in: it says more and counts as full. Else prove '..UptoSaid'. A law counts once. -/
mutual
def uptoBulk {H : Type} : DataW H → Nat
  | .lit (.string bytes) => bytes.length + 1
  | .lit _ => 1
  | .nil => 1
  | .ptr d => uptoBulk d + 1
  | .slice elems spare => uptoBulkAll elems + uptoBulkAll spare + 1
  | .agg parts => uptoBulkAll parts + 1
  | .iface _ d => uptoBulk d + 1
  | .map entries => uptoBulkEntries entries + 1
  | .held _ => 1
def uptoBulkAll {H : Type} : List (DataW H) → Nat
  | [] => 0
  | d :: r => uptoBulk d + uptoBulkAll r
def uptoBulkEntries {H : Type} : List (Lit × DataW H) → Nat
  | [] => 0
  | x :: r => uptoBulkEntry x + uptoBulkEntries r
def uptoBulkEntry {H : Type} : Lit × DataW H → Nat
  | (.string bytes, d) => bytes.length + uptoBulk d + 1
  | (_, d) => uptoBulk d + 1
 end
def uptoSmall : (H : Type) → List (DataW H) → Bool := fun _ ds => decide (uptoBulkAll ds ≤ 1048576)
def OpenSpec.upto (s : _root_.Go.ChangeSpec) : _root_.Go.OpenSpec := { _root_.Go.OpenSpec.ofChange s with cond := some uptoSmall }

/-- 'joistlaw11.ManifestBytes', WHERE WHAT IT READS IS OF BULK AT MOST 1048576: true; the input reads as it did. -/
def manifestBytesUptoRow : OpenClaim := { program := "ytideokbaenkijaa", sum := "594a925750c20e306a5b97c8b1efdbedd0e526c3bb6c7a2753006d97591e6f6d", func := "joist/joistlaw11.ManifestBytes", spec := "manifestBytes", unfollowed := true, recurses := true, apart := false, narrowed := true }
def ManifestBytesUptoSaid : Prop := manifestBytesUptoRow.holds Try.pinned (OpenSpec.upto manifestBytesSpec)

/-- 'joistlaw11.ManifestBits', WHERE WHAT IT READS IS OF BULK AT MOST 1048576: true; the input reads as it did. -/
def manifestBitsUptoRow : OpenClaim := { program := "ytideokbaenkijaa", sum := "594a925750c20e306a5b97c8b1efdbedd0e526c3bb6c7a2753006d97591e6f6d", func := "joist/joistlaw11.ManifestBits", spec := "manifestBits", unfollowed := true, recurses := true, apart := false, narrowed := true }
def ManifestBitsUptoSaid : Prop := manifestBitsUptoRow.holds Try.pinned (OpenSpec.upto manifestBitsSpec)

/-- 'joistlaw11.ManifestRises', WHERE WHAT IT READS IS OF BULK AT MOST 1048576: true; the input reads as it did. -/
def manifestRisesUptoRow : OpenClaim := { program := "ytideokbaenkijaa", sum := "594a925750c20e306a5b97c8b1efdbedd0e526c3bb6c7a2753006d97591e6f6d", func := "joist/joistlaw11.ManifestRises", spec := "manifestRises", unfollowed := true, recurses := true, apart := false, narrowed := true }
def ManifestRisesUptoSaid : Prop := manifestRisesUptoRow.holds Try.pinned (OpenSpec.upto manifestRisesSpec)

/-- 'joistlaw11.ManifestCrash', WHERE WHAT IT READS IS OF BULK AT MOST 1048576: true; the input reads as it did. -/
def manifestCrashUptoRow : OpenClaim := { program := "ytideokbaenkijaa", sum := "594a925750c20e306a5b97c8b1efdbedd0e526c3bb6c7a2753006d97591e6f6d", func := "joist/joistlaw11.ManifestCrash", spec := "manifestCrash", unfollowed := true, recurses := true, apart := false, narrowed := true }
def ManifestCrashUptoSaid : Prop := manifestCrashUptoRow.holds Try.pinned (OpenSpec.upto manifestCrashSpec)

end Rows
end Go.Proofs.Ytideokbaenkijaa
