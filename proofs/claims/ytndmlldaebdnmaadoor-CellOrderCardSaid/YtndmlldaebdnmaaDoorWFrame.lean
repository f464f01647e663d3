/-
  What all laws of this seat share around their walks: arguments that came in, the tables that are laid, a start that fits.
-/
import Derived.Test.YtndmlldaebdnmaaDoorCards
import Derived.Test.YtndmlldaebdnmaaDoorTie
import Derived.Test.YtndmlldaebdnmaaDoorWOpen
import Derived.Lib.LaidIn
import Derived.Lib.LaidU8T
import Derived.PinnedBridge
import Derived.Deep.DeepHandedRow
import Derived.Deep.DeepWitnessRowRef
import Derived.ProofKit
import Derived.SizedLaws
namespace Go.Proofs.YtndmlldaebdnmaaDoor
open Go.ChangeShapes Go.WideShapes Go.ChangeAt Go.RowKit Go.Lib
open Go.ChangeMaps (open_string shut_string)

theorem own : ownKnob Tryd.prog.godebug = none := by kernel_rfl
theorem laidOut : laidOutB Tryd.prog = true := by kernel_rfl

section
variable {H : Type} {encf : TypeId × Value → H} {w : World}
theorem arg_cells {a : Option Addr} {len cap : Nat} {d : DataW H} {p : List MemPlace} (h : DataW.Trod encf Tryd.prog w 0 (fun _ => true) true 22 (.slice a len cap) d p) (hz : Within Tryd.prog 22 d) : ∃ xs, RdC w a len xs ∧ (∀ c ∈ xs, c.fits) ∧ (a = none → cap = 0) ∧ len ≤ cap ∧ cap ≤ 1466015503700 := by
  obtain ⟨fuel, hf⟩ := h
  obtain ⟨A, n, c, xs, e, h1⟩ := open_cells fuel _ _ hf hz
  simp [Value.cells] at e
  obtain ⟨rfl, rfl, rfl⟩ := e
  exact ⟨xs, h1⟩
theorem arg_cell {v : Value} {d : DataW H} {p : List MemPlace} {r : Reach} {b : Nat} (h : DataW.Trod encf Tryd.prog w 0 (fun _ => true) true 31 v d p) (hz : Within Tryd.prog 31 d) (hv : Value.okWide Tryd.prog w r b 31 v) : ∃ c : Cell, v = c.v ∧ c.fits := by
  obtain ⟨cs, rfl, _⟩ := okWide_struct Tryd.underlying31 hv
  obtain ⟨fuel, hf⟩ := h
  obtain ⟨c, e, hc⟩ := open_cell fuel _ _ hf hz
  refine ⟨c, ?_, hc⟩
  have e2 : cs = c.l.toArray := by
    have : (Value.agg cs).cells.toList = cs.toList := rfl
    rw [this] at e
    rw [← e]
  rw [e2]; rfl
theorem arg_string {s : ByteArray} (hz : Within (H := H) Tryd.prog 9 (.lit (.string s.data.toList))) : s.size ≤ 140737488351232 := lit_within hz
end

/-- The list of what is laid, in the seat's order. -/
abbrev laidList : List (String × DataW Unit) := [("unicode/utf8.acceptRanges", Rows.laid_unicode_utf8_acceptRanges), ("unicode/utf8.first", Rows.laid_unicode_utf8_first)]
theorem laid_eq : laidList = [("unicode/utf8.acceptRanges", Lib.acceptData), ("unicode/utf8.first", Lib.firstData)] := by
  have e1 : (Rows.laid_unicode_utf8_acceptRanges : DataW Unit) = Lib.acceptData := by kernel_rfl
  have e2 : Rows.laid_unicode_utf8_first = Lib.firstData := by unfold Rows.laid_unicode_utf8_first; exact Pinned.utf8First_eq
  rw [laidList, e1, e2]
theorem tabs_of {W : World} (h : laidMetH Tryd.prog laidList W) : Lib.Utf8Tabs 0 1 W := by
  rw [laid_eq] at h
  exact utf8Tabs_of_readsT (U8Types.of196 Tryd.lays196) ⟨by kernel_rfl, by kernel_rfl, by kernel_rfl, by kernel_rfl, by kernel_rfl, by kernel_rfl, by kernel_rfl⟩ (Lib.laidMet.reads h (.tail _ (.head _))) (Lib.laidMet.reads h (.head _))
/-- The settled world, the two variables holding what their initialisers lay. -/
noncomputable def laidWorld (os : Os) : World :=
  let w0 := World.holding Tryd.prog os ⟨#[], #[], []⟩
  let put (h : Array Obj) (g : Nat) (cs : Array Value) : Array Obj := h.modify g fun
    | .cells _ t frozen => .cells cs t frozen
    | o => o
  let h1 := put w0.heap 0 (Lib.firstTab.map fun z => Value.int .u8 z).toArray
  let h2 := put h1 1 ((List.range 16).flatMap fun i => [Value.int .u8 (Lib.accLo i), Value.int .u8 (Lib.accHi i)]).toArray
  { w0 with heap := h2 }
theorem laid_met (os : Os) (args : Array Value) : laidMet Tryd.prog laidList ((laidWorld os).forCall (fun _ _ => 0) ⟨#[], args, []⟩).memory := by
  rw [laid_eq]
  exact (LaidIn.of_run (l := [("unicode/utf8.acceptRanges", Lib.acceptData), ("unicode/utf8.first", Lib.firstData)]) [1, 0] 8 (by kernel_rfl) (by kernel_rfl) (by kernel_rfl) (by kernel_rfl)).met
end Go.Proofs.YtndmlldaebdnmaaDoor
