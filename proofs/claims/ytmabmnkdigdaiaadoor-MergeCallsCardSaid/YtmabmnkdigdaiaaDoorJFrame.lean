/-
  What all laws of this seat share around their walks: arguments that came in, the tables that are laid, a start that fits.
-/
import Derived.Test.YtmabmnkdigdaiaaDoorCards
import Derived.Test.YtmabmnkdigdaiaaDoorTie
import Derived.Test.YtmabmnkdigdaiaaDoorJOpen
import Derived.Test.YtmabmnkdigdaiaaDoorJLawB
import Derived.Lib.LaidIn
import Derived.Lib.LaidU8T
import Derived.PinnedBridge
import Derived.Deep.DeepHandedRow
import Derived.Deep.DeepWitnessRowRef
import Derived.ProofKit
import Derived.SizedLaws
namespace Go.Proofs.YtmabmnkdigdaiaaDoor
open Go.ChangeShapes Go.WideShapes Go.ChangeAt Go.RowKit Go.Lib
open Go.ChangeMaps (open_string shut_string)

theorem own : ownKnob Tryd.prog.godebug = none := by kernel_rfl
theorem laidOut : laidOutB Tryd.prog = true := by kernel_rfl

section
variable {H : Type} {encf : TypeId × Value → H} {w : World}
theorem cellsRow : Tryd.prog.cellsOf 23 = 1 := by kernel_rfl
theorem bytesRow : Tryd.prog.bytesOf 23 = 24 := by kernel_rfl
instance : Inhabited Row := ⟨⟨none, 0, 0, []⟩⟩
theorem arg_rows {a : Option Addr} {len cap : Nat} {d : DataW H} {p : List MemPlace} (h : DataW.Trod encf Tryd.prog w 0 (fun _ => true) true 22 (.slice a len cap) d p) (hz : Within Tryd.prog 22 d) : ∃ rows, ArgRows w a len rows := by
  obtain ⟨fuel, hf⟩ := h
  obtain ⟨A, n, c, xs, e, h1, h2, h3, h4, h5⟩ := open_rows (α := Row) (good := fun r => RdC w r.A r.n r.xs ∧ r.n ≤ 140737488351232 ∧ r.n ≤ r.cap ∧ (r.A = none → r.cap = 0) ∧ ∀ c ∈ r.xs, c.fits) Tryd.underlying22 cellsRow (by omega) Row.l_len
    (fun fuel cs x hc hw => by
      obtain ⟨A, n, cap, xs, q1, q2, q3, q4, q5, q6⟩ := open_cells fuel cs x hc hw
      exact ⟨⟨A, n, cap, xs⟩, q1, q2, by simp only; omega, q5, q4, q3⟩) hf hz
  simp [Value.cells] at e
  obtain ⟨rfl, rfl, rfl⟩ := e
  refine ⟨xs, h1, ?_, h2⟩
  rw [bytesRow] at h5
  unfold reachBytes at h5
  omega
theorem arg_cells {a : Option Addr} {len cap : Nat} {d : DataW H} {p : List MemPlace} (h : DataW.Trod encf Tryd.prog w 0 (fun _ => true) true 23 (.slice a len cap) d p) (hz : Within Tryd.prog 23 d) : ∃ xs, RdC w a len xs ∧ (∀ c ∈ xs, c.fits) ∧ (a = none → cap = 0) ∧ len ≤ cap ∧ cap ≤ 1466015503700 := by
  obtain ⟨fuel, hf⟩ := h
  obtain ⟨A, n, c, xs, e, h1⟩ := open_cells fuel _ _ hf hz
  simp [Value.cells] at e
  obtain ⟨rfl, rfl, rfl⟩ := e
  exact ⟨xs, h1⟩
theorem arg_cell {v : Value} {d : DataW H} {p : List MemPlace} {r : Reach} {b : Nat} (h : DataW.Trod encf Tryd.prog w 0 (fun _ => true) true 35 v d p) (hz : Within Tryd.prog 35 d) (hv : Value.okWide Tryd.prog w r b 35 v) : ∃ c : Cell, v = c.v ∧ c.fits := by
  obtain ⟨cs, rfl, _⟩ := okWide_struct Tryd.underlying35 hv
  obtain ⟨fuel, hf⟩ := h
  obtain ⟨c, e, hc⟩ := open_cell fuel _ _ hf hz
  refine ⟨c, ?_, hc⟩
  have e2 : cs = c.l.toArray := by
    have : (Value.agg cs).cells.toList = cs.toList := rfl
    rw [this] at e
    rw [← e]
  rw [e2]; rfl
theorem arg_string {s : ByteArray} (hz : Within (H := H) Tryd.prog 9 (.lit (.string s.data.toList))) : s.size ≤ 140737488351232 := lit_within hz
end

/-- The list of what is laid, in the seat's order. -/
abbrev laidList : List (String × DataW Unit) := [("unicode/utf8.acceptRanges", Rows.laid_unicode_utf8_acceptRanges), ("unicode/utf8.first", Rows.laid_unicode_utf8_first)]
theorem laid_eq : laidList = [("unicode/utf8.acceptRanges", Lib.acceptData), ("unicode/utf8.first", Lib.firstData)] := by
  have e1 : (Rows.laid_unicode_utf8_acceptRanges : DataW Unit) = Lib.acceptData := by kernel_rfl
  have e2 : Rows.laid_unicode_utf8_first = Lib.firstData := by unfold Rows.laid_unicode_utf8_first; exact Pinned.utf8First_eq
  rw [laidList, e1, e2]
theorem tabs_of {W : World} (h : laidMetH Tryd.prog laidList W) : Lib.Utf8Tabs 1 2 W := by
  rw [laid_eq] at h
  exact utf8Tabs_of_readsT (U8Types.of196 Tryd.lays196) ⟨by kernel_rfl, by kernel_rfl, by kernel_rfl, by kernel_rfl, by kernel_rfl, by kernel_rfl, by kernel_rfl⟩ (Lib.laidMet.reads h (.tail _ (.head _))) (Lib.laidMet.reads h (.head _))
/-- The settled world, the two variables holding what their initialisers lay. -/
noncomputable def laidWorld (os : Os) : World :=
  let w0 := World.holding Tryd.prog os ⟨#[], #[], []⟩
  let put (h : Array Obj) (g : Nat) (cs : Array Value) : Array Obj := h.modify g fun
    | .cells _ t frozen => .cells cs t frozen
    | o => o
  let h1 := put w0.heap 1 (Lib.firstTab.map fun z => Value.int .u8 z).toArray
  let h2 := put h1 2 ((List.range 16).flatMap fun i => [Value.int .u8 (Lib.accLo i), Value.int .u8 (Lib.accHi i)]).toArray
  { w0 with heap := h2 }
theorem laid_met (os : Os) (args : Array Value) : laidMet Tryd.prog laidList ((laidWorld os).forCall (fun _ _ => 0) ⟨#[], args, []⟩).memory := by
  rw [laid_eq]
  exact (LaidIn.of_run (l := [("unicode/utf8.acceptRanges", Lib.acceptData), ("unicode/utf8.first", Lib.firstData)]) [2, 1] 8 (by kernel_rfl) (by kernel_rfl) (by kernel_rfl) (by kernel_rfl)).met
end Go.Proofs.YtmabmnkdigdaiaaDoor
