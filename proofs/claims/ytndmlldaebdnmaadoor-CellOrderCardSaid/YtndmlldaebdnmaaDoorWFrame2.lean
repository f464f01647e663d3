/-
  A row of numbers that came in.
-/
import Derived.Test.YtndmlldaebdnmaaDoorWFrame
import Derived.Test.YtndmlldaebdnmaaDoorWLOrder
namespace Go.Proofs.YtndmlldaebdnmaaDoor
open Go.ChangeShapes Go.WideShapes Go.ChangeAt Go.RowKit Go.Lib
section
variable {H : Type} {encf : TypeId × Value → H} {w : World}
theorem bytesInt : Tryd.prog.bytesOf 3 = 8 := by kernel_rfl
theorem open_int1 (fuel : Nat) (cs : List Value) (x : DataW H × List MemPlace) (h : DataW.trod encf Tryd.prog w 0 (fun _ => true) true fuel 3 cs = some x) (_ : Within Tryd.prog 3 x.1) : ∃ c : Int, cs = encI c ∧ isInt c := by
  obtain ⟨n, e, z, b⟩ := DataW.trod_int Tryd.underlying3 h
  exact ⟨n, e, int_of_wf b⟩
theorem arg_ints {a : Option Addr} {len cap : Nat} {d : DataW H} {p : List MemPlace} (h : DataW.Trod encf Tryd.prog w 0 (fun _ => true) true 23 (.slice a len cap) d p) (hz : Within Tryd.prog 23 d) : ∃ xs, ArgI w a len cap xs := by
  obtain ⟨fuel, hf⟩ := h
  obtain ⟨A, n, c, xs, e, h1, h2, h3, h4, h5⟩ := open_rows (α := Int) (good := isInt) Tryd.underlying23 cellsOfInt (by omega) (fun _ => rfl) open_int1 hf hz
  simp [Value.cells] at e
  obtain ⟨rfl, rfl, rfl⟩ := e
  rw [bytesInt] at h5
  unfold reachBytes at h5
  exact ⟨xs, h1, h2, h3, h4, by omega⟩
end
end Go.Proofs.YtndmlldaebdnmaaDoor
