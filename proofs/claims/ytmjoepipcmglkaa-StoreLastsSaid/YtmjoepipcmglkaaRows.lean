/-
  No cell of these rows narrows 'for every input' (looked for: loops, veiled, ifaces, maps, wideKeys, modest, calm, conditions, laid).
  DERIVED. THE GIVEN ROWS OF THIS SEAT. 4 by the template 'for every input the law returns true; each argument reads behind the call as it read before'; 0 by the template 'total and deterministic' (their statements: YtmjoepipcmglkaaTotals.lean).
  GIVEN WITH THE SEED: the statements are not yours to turn. If you find one false, say at which input.
  Laid BY PROGRAM, IN A SANDBOX (cutbox-rows.mjs): the forced cells as the released guide's own fill.sh prints them over the translation bc604e0638a6984d… (all of the seat's roots in one cut). By AI agents, Wed Nov 11 2026. No macro, syntax, notation, axiom, sorry.
-/
import Derived.Test.YtmjoepipcmglkaaChecked
import GoSem.Claim
import GoSem.ClaimJoined
import GoSem.ClaimMapViews
import Derived.JoinedTies
import Derived.KernelRfl
namespace Go.Proofs.Ytmjoepipcmglkaa
/- THE CELL 'sum', in the pinned program and in every row, IS THE sha256 OF THE DUMP (.gsa) THAT YtmjoepipcmglkaaProg.lean LOADS. Nothing in Lean hashes anything: it is a label: what it is worth is what the hold of that sum in a sandbox is worth. -/
noncomputable def Try.pinned : Pinned := { name := "ytmjoepipcmglkaa", sum := "bc604e0638a6984d4203760735d286559fd94b4cee7f14bbb69f5e98d5feb44d", checked := Try.checked }
namespace Rows
def none {H : Type} : Left H := { results := [], args := [] }

/-- 'joistlaw05.StoreCalls': WHATEVER THE INPUT: true; the input reads as it did. -/
def storeCallsSpec : ChangeSpec := { name := "storeCalls", fn := fun _ => fun
  | [d1, d2] => { results := [.lit (.bool true)], args := [d1, d2] }
  | _ => none }
def storeCallsRow : OpenClaim := { program := "ytmjoepipcmglkaa", sum := "bc604e0638a6984d4203760735d286559fd94b4cee7f14bbb69f5e98d5feb44d", func := "joist/joistlaw05.StoreCalls", spec := "storeCalls", unfollowed := true, recurses := true, apart := false }
def StoreCallsSaid : Prop := storeCallsRow.holds Try.pinned (OpenSpec.ofChange storeCallsSpec)

/-- ITS FALSE NEIGHBOUR: 'it returns false'. Refute it at one input. -/
def storeCallsWrong : ChangeSpec := { name := "storeCalls", fn := fun _ => fun
  | [d1, d2] => { results := [.lit (.bool false)], args := [d1, d2] }
  | _ => none }
def StoreCallsWrongFalsely : Prop := storeCallsRow.holds Try.pinned (OpenSpec.ofChange storeCallsWrong)

/-- 'joistlaw05.StoreLasts': WHATEVER THE INPUT: true; the input reads as it did. -/
def storeLastsSpec : ChangeSpec := { name := "storeLasts", fn := fun _ => fun
  | [d1, d2, d3] => { results := [.lit (.bool true)], args := [d1, d2, d3] }
  | _ => none }
def storeLastsRow : OpenClaim := { program := "ytmjoepipcmglkaa", sum := "bc604e0638a6984d4203760735d286559fd94b4cee7f14bbb69f5e98d5feb44d", func := "joist/joistlaw05.StoreLasts", spec := "storeLasts", unfollowed := true, recurses := true, apart := false }
def StoreLastsSaid : Prop := storeLastsRow.holds Try.pinned (OpenSpec.ofChange storeLastsSpec)

/-- ITS FALSE NEIGHBOUR: 'it returns false'. Refute it at one input. -/
def storeLastsWrong : ChangeSpec := { name := "storeLasts", fn := fun _ => fun
  | [d1, d2, d3] => { results := [.lit (.bool false)], args := [d1, d2, d3] }
  | _ => none }
def StoreLastsWrongFalsely : Prop := storeLastsRow.holds Try.pinned (OpenSpec.ofChange storeLastsWrong)

/-- 'joistlaw05.StoreTwice': WHATEVER THE INPUT: true; the input reads as it did. -/
def storeTwiceSpec : ChangeSpec := { name := "storeTwice", fn := fun _ => fun
  | [d1, d2, d3] => { results := [.lit (.bool true)], args := [d1, d2, d3] }
  | _ => none }
def storeTwiceRow : OpenClaim := { program := "ytmjoepipcmglkaa", sum := "bc604e0638a6984d4203760735d286559fd94b4cee7f14bbb69f5e98d5feb44d", func := "joist/joistlaw05.StoreTwice", spec := "storeTwice", unfollowed := true, recurses := true, apart := false }
def StoreTwiceSaid : Prop := storeTwiceRow.holds Try.pinned (OpenSpec.ofChange storeTwiceSpec)

/-- ITS FALSE NEIGHBOUR: 'it returns false'. Refute it at one input. -/
def storeTwiceWrong : ChangeSpec := { name := "storeTwice", fn := fun _ => fun
  | [d1, d2, d3] => { results := [.lit (.bool false)], args := [d1, d2, d3] }
  | _ => none }
def StoreTwiceWrongFalsely : Prop := storeTwiceRow.holds Try.pinned (OpenSpec.ofChange storeTwiceWrong)

/-- 'joistlaw05.StoreRooms': WHATEVER THE INPUT: true; the input reads as it did. -/
def storeRoomsSpec : ChangeSpec := { name := "storeRooms", fn := fun _ => fun
  | [d1, d2] => { results := [.lit (.bool true)], args := [d1, d2] }
  | _ => none }
def storeRoomsRow : OpenClaim := { program := "ytmjoepipcmglkaa", sum := "bc604e0638a6984d4203760735d286559fd94b4cee7f14bbb69f5e98d5feb44d", func := "joist/joistlaw05.StoreRooms", spec := "storeRooms", unfollowed := true, recurses := true, apart := false }
def StoreRoomsSaid : Prop := storeRoomsRow.holds Try.pinned (OpenSpec.ofChange storeRoomsSpec)

/-- ITS FALSE NEIGHBOUR: 'it returns false'. Refute it at one input. -/
def storeRoomsWrong : ChangeSpec := { name := "storeRooms", fn := fun _ => fun
  | [d1, d2] => { results := [.lit (.bool false)], args := [d1, d2] }
  | _ => none }
def StoreRoomsWrongFalsely : Prop := storeRoomsRow.holds Try.pinned (OpenSpec.ofChange storeRoomsWrong)

/- THE SECOND FORM. 'bulk': how many values and letters a reading holds, each counted each time it is reached (what is shared counts as often as it is met; a slice's spare places count too). A statement '..UptoSaid' is the law's where the arguments, and the package variables that the reading takes, are together of bulk at most 1048576: NARROWER than '..Said'. Prove '..Said' where nothing that the law and all that it calls make is longer than what came in: it says more and counts as full. Else prove '..UptoSaid'. A law counts once. -/
mutual
def uptoBulk {H : Type} : DataW H → Nat
  | .lit (.string bytes) => bytes.length + 1
  | .lit _ => 1
  | .nil => 1
  | .ptr d => uptoBulk d + 1
  | .slice elems spare => uptoBulkAll elems + uptoBulkAll spare + 1
  | .agg parts => uptoBulkAll parts + 1
  | .iface _ d => uptoBulk d + 1
  | .map entries => uptoBulkEntries entries + 1
  | .held _ => 1
def uptoBulkAll {H : Type} : List (DataW H) → Nat
  | [] => 0
  | d :: r => uptoBulk d + uptoBulkAll r
def uptoBulkEntries {H : Type} : List (Lit × DataW H) → Nat
  | [] => 0
  | x :: r => uptoBulkEntry x + uptoBulkEntries r
def uptoBulkEntry {H : Type} : Lit × DataW H → Nat
  | (.string bytes, d) => bytes.length + uptoBulk d + 1
  | (_, d) => uptoBulk d + 1
 end
def uptoSmall : (H : Type) → List (DataW H) → Bool := fun _ ds => decide (uptoBulkAll ds ≤ 1048576)
def OpenSpec.upto (s : _root_.Go.ChangeSpec) : _root_.Go.OpenSpec := { _root_.Go.OpenSpec.ofChange s with cond := some uptoSmall }

/-- 'joistlaw05.StoreCalls', WHERE WHAT IT READS IS OF BULK AT MOST 1048576: true; the input reads as it did. -/
def storeCallsUptoRow : OpenClaim := { program := "ytmjoepipcmglkaa", sum := "bc604e0638a6984d4203760735d286559fd94b4cee7f14bbb69f5e98d5feb44d", func := "joist/joistlaw05.StoreCalls", spec := "storeCalls", unfollowed := true, recurses := true, apart := false, narrowed := true }
def StoreCallsUptoSaid : Prop := storeCallsUptoRow.holds Try.pinned (OpenSpec.upto storeCallsSpec)

/-- 'joistlaw05.StoreLasts', WHERE WHAT IT READS IS OF BULK AT MOST 1048576: true; the input reads as it did. -/
def storeLastsUptoRow : OpenClaim := { program := "ytmjoepipcmglkaa", sum := "bc604e0638a6984d4203760735d286559fd94b4cee7f14bbb69f5e98d5feb44d", func := "joist/joistlaw05.StoreLasts", spec := "storeLasts", unfollowed := true, recurses := true, apart := false, narrowed := true }
def StoreLastsUptoSaid : Prop := storeLastsUptoRow.holds Try.pinned (OpenSpec.upto storeLastsSpec)

/-- 'joistlaw05.StoreTwice', WHERE WHAT IT READS IS OF BULK AT MOST 1048576: true; the input reads as it did. -/
def storeTwiceUptoRow : OpenClaim := { program := "ytmjoepipcmglkaa", sum := "bc604e0638a6984d4203760735d286559fd94b4cee7f14bbb69f5e98d5feb44d", func := "joist/joistlaw05.StoreTwice", spec := "storeTwice", unfollowed := true, recurses := true, apart := false, narrowed := true }
def StoreTwiceUptoSaid : Prop := storeTwiceUptoRow.holds Try.pinned (OpenSpec.upto storeTwiceSpec)

/-- 'joistlaw05.StoreRooms', WHERE WHAT IT READS IS OF BULK AT MOST 1048576: true; the input reads as it did. -/
def storeRoomsUptoRow : OpenClaim := { program := "ytmjoepipcmglkaa", sum := "bc604e0638a6984d4203760735d286559fd94b4cee7f14bbb69f5e98d5feb44d", func := "joist/joistlaw05.StoreRooms", spec := "storeRooms", unfollowed := true, recurses := true, apart := false, narrowed := true }
def StoreRoomsUptoSaid : Prop := storeRoomsUptoRow.holds Try.pinned (OpenSpec.upto storeRoomsSpec)

end Rows
end Go.Proofs.Ytmjoepipcmglkaa
