/-
  What all laws of this seat share around their walks: arguments that came in, the tables that are laid, a start that fits.
-/
import Derived.Test.YtonghiaocpenaaaGreatDoorCards
import Derived.Test.YtonghiaocpenaaaGreatDoorTie
import Derived.Test.YtonghiaocpenaaaGreatDoorKOpen
import Derived.Test.YtonghiaocpenaaaGreatDoorKEnc
import Derived.Lib.LaidIn
import Derived.Lib.LaidU8T
import Derived.PinnedBridge
import Derived.Deep.DeepHandedRow
import Derived.Deep.DeepWitnessRowRef
import Derived.ProofKit
import Derived.SizedLaws
import Derived.Test.YtonghiaocpenaaaGreatDoorShelf
namespace Go.Proofs.YtonghiaocpenaaaGreatDoor
open Go.ChangeShapes Go.WideShapes Go.ChangeAt Go.RowKit Go.Lib
open Go.ChangeMaps (open_string shut_string)

theorem own : ownKnob Tryz.prog.godebug = none := by kernel_rfl
theorem laidOut : laidOutB Tryz.prog = true := by kernel_rfl

section
variable {H : Type} {encf : TypeId × Value → H} {w : World}
set_option maxRecDepth 20000 in
theorem arg_cell {v : Value} {d : DataW H} {p : List MemPlace} {r : Reach} {b : Nat} (h : DataW.Trod encf Tryz.prog w 0 (fun _ => true) true 25 v d p) (hz : Within Tryz.prog 25 d) (hv : Value.okWide Tryz.prog w r b 25 v) : ∃ c : Cell, v = c.v ∧ c.fits := by
  obtain ⟨cs, rfl, _⟩ := okWide_struct Tryz.underlying25 hv
  obtain ⟨fuel, hf⟩ := h
  obtain ⟨c, e, hc⟩ := open_cell fuel _ _ hf hz
  refine ⟨c, ?_, hc⟩
  have e2 : cs = c.l.toArray := by
    have : (Value.agg cs).cells.toList = cs.toList := rfl
    rw [this] at e
    rw [← e]
  rw [e2]; rfl
theorem arg_string {s : ByteArray} (hz : Within (H := H) Tryz.prog 9 (.lit (.string s.data.toList))) : s.size ≤ 140737488351232 := lit_within hz
end

/-- The list of what is laid, in the seat's order. -/
abbrev laidList : List (String × DataW Unit) := [("unicode/utf8.acceptRanges", Rows.laid_unicode_utf8_acceptRanges), ("bytes.ErrTooLarge", Rows.laid_bytes_ErrTooLarge), ("unicode/utf8.first", Rows.laid_unicode_utf8_first)]
theorem laid_eq : laidList = [("unicode/utf8.acceptRanges", Lib.acceptData), ("bytes.ErrTooLarge", Rows.laid_bytes_ErrTooLarge), ("unicode/utf8.first", Lib.firstData)] := by
  have e1 : (Rows.laid_unicode_utf8_acceptRanges : DataW Unit) = Lib.acceptData := by kernel_rfl
  have e2 : Rows.laid_unicode_utf8_first = Lib.firstData := by unfold Rows.laid_unicode_utf8_first; exact Pinned.utf8First_eq
  rw [laidList, e1, e2]
theorem tabs_of {W : World} (h : laidMetH Tryz.prog laidList W) : Lib.Utf8Tabs 0 1 W := by
  rw [laid_eq] at h
  exact utf8Tabs_of_readsT (U8Types.of196 Tryz.lays196) ⟨by kernel_rfl, by kernel_rfl, by kernel_rfl, by kernel_rfl, by kernel_rfl, by kernel_rfl, by kernel_rfl⟩ (Lib.laidMet.reads h (.tail _ (.tail _ (.head _)))) (Lib.laidMet.reads h (.head _))
theorem ground_of {W : World} (h : laidMetH Tryz.prog laidList W) (hs : W.ShapedOpen Tryz.prog) : Ground W := ⟨tabs_of h, Tryz.laysM155.s1_3 W hs⟩
/-- The settled world, the variables holding what their initialisers lay; the error's text in a block behind them. -/
noncomputable def errText : Obj := .cells #[.string ⟨#[98, 121, 116, 101, 115, 46, 66, 117, 102, 102, 101, 114, 58, 32, 116, 111, 111, 32, 108, 97, 114, 103, 101]⟩] 144
noncomputable def laidWorld (os : Os) : World :=
  let s0 := World.settled Tryz.prog os
  let w0 := World.holding Tryz.prog os ⟨#[errText], #[], []⟩
  let put (h : Array Obj) (g : Nat) (cs : Array Value) : Array Obj := h.modify g fun
    | .cells _ t frozen => .cells cs t frozen
    | o => o
  let h1 := put w0.heap 0 (Lib.firstTab.map fun z => Value.int .u8 z).toArray
  let h2 := put h1 1 ((List.range 16).flatMap fun i => [Value.int .u8 (Lib.accLo i), Value.int .u8 (Lib.accHi i)]).toArray
  let h3 := put h2 3 #[.iface 130 (.pointer (some ⟨s0.heap.size, 0, none⟩))]
  { w0 with heap := h3 }
theorem laid_met (os : Os) (args : Array Value) : laidMet Tryz.prog laidList ((laidWorld os).forCall (fun _ _ => 0) ⟨#[], args, []⟩).memory := by
  rw [laid_eq]
  exact (LaidIn.of_run (l := [("unicode/utf8.acceptRanges", Lib.acceptData), ("bytes.ErrTooLarge", Rows.laid_bytes_ErrTooLarge), ("unicode/utf8.first", Lib.firstData)]) [1, 3, 0, (World.settled Tryz.prog os).heap.size] 8 (by kernel_rfl) (by kernel_rfl) (by kernel_rfl) (by kernel_rfl)).met
end Go.Proofs.YtonghiaocpenaaaGreatDoor
