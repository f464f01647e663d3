/-
  A row of rows of bytes that came in.
-/
import Derived.Test.YtonghiaocpenaaaDoorKFrame
import Derived.Test.YtonghiaocpenaaaDoorKBack
namespace Go.Proofs.YtonghiaocpenaaaDoor
open Go.ChangeShapes Go.WideShapes Go.ChangeAt Go.RowKit Go.Lib
section
variable {H : Type} {encf : TypeId × Value → H} {w : World}
instance : Inhabited BRow := ⟨⟨none, 0, 0, []⟩⟩
theorem cellsByte : Tryd.prog.cellsOf 5 = 1 := by kernel_rfl
theorem cellsBytes : Tryd.prog.cellsOf 30 = 1 := by kernel_rfl
theorem bytesByte : Tryd.prog.bytesOf 5 = 1 := by kernel_rfl
theorem bytesBytes : Tryd.prog.bytesOf 30 = 24 := by kernel_rfl
theorem open_byte (fuel : Nat) (cs : List Value) (x : DataW H × List MemPlace) (h : DataW.trod encf Tryd.prog w 0 (fun _ => true) true fuel 5 cs = some x) (_ : Within Tryd.prog 5 x.1) : ∃ c : Int, cs = encB c ∧ (0 ≤ c ∧ c < 256) := by
  obtain ⟨n, e, z, b⟩ := DataW.trod_int Tryd.underlying5 h
  refine ⟨n, e, ?_⟩
  have := bounds_u8 b
  omega
theorem open_bytes (fuel : Nat) (cs : List Value) (x : DataW H × List MemPlace) (h : DataW.trod encf Tryd.prog w 0 (fun _ => true) true fuel 30 cs = some x) (hz : Within Tryd.prog 30 x.1) :
    ∃ r : BRow, cs = r.l ∧ (BRowOk w r ∧ Bytes r.xs) ∧ r.n ≤ 140737488355328 := by
  obtain ⟨A, n, cap, xs, h1, h2, h3, h4, h5, h6⟩ := open_rows Tryd.underlying30 cellsByte (by omega) encB_len open_byte h hz
  rw [bytesByte] at h6
  unfold reachBytes at h6
  exact ⟨⟨A, n, cap, xs⟩, h1, ⟨⟨h2, h4⟩, h3⟩, by simp only; omega⟩
theorem arg_brows {a : Option Addr} {len cap : Nat} {d : DataW H} {p : List MemPlace} (h : DataW.Trod encf Tryd.prog w 0 (fun _ => true) true 38 (.slice a len cap) d p) (hz : Within Tryd.prog 38 d) : ∃ rows : List BRow, Rd 1 BRow.l w a len rows ∧ (∀ r ∈ rows, (BRowOk w r ∧ Bytes r.xs) ∧ r.n ≤ 140737488355328) ∧ len ≤ 140737488355328 := by
  obtain ⟨fuel, hf⟩ := h
  obtain ⟨A, n, c, xs, e, h1, h2, h3, h4, h5⟩ := open_rows (α := BRow) (good := fun r => (BRowOk w r ∧ Bytes r.xs) ∧ r.n ≤ 140737488355328) Tryd.underlying38 cellsBytes (by omega) BRow.l_len open_bytes hf hz
  simp [Value.cells] at e
  obtain ⟨rfl, rfl, rfl⟩ := e
  rw [bytesBytes] at h5
  unfold reachBytes at h5
  exact ⟨xs, h1, h2, by omega⟩
end
end Go.Proofs.YtonghiaocpenaaaDoor
