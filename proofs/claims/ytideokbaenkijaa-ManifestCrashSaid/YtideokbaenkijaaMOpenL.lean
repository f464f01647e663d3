/-
  Arguments of a law: rows of states that came in.
-/
import Derived.Test.YtideokbaenkijaaMCrashL
namespace Go.Proofs.Ytideokbaenkijaa
open Go.RowKit Go.WideShapes
section
variable {H : Type} {encf : TypeId × Value → H} {w : World}
instance : Inhabited SRow := ⟨⟨zeroS, none, 0, 0⟩⟩
theorem open_srow (fuel : Nat) (cs : List Value) (x : DataW H × List MemPlace) (h : DataW.trod encf Try.prog w 0 (fun _ => true) true fuel 24 cs = some x) (hz : Within Try.prog 24 x.1) : ∃ r : SRow, cs = r.l ∧ StateIn w r.s r.A r.k r.c := by
  obtain ⟨s, A, k, c, e, hc⟩ := open_state fuel cs x h hz
  exact ⟨⟨s, A, k, c⟩, e, hc⟩
set_option maxRecDepth 20000 in
theorem arg_states {a : Option Addr} {len cap : Nat} {d : DataW H} {p : List MemPlace} (h : DataW.Trod encf Try.prog w 0 (fun _ => true) true 56 (.slice a len cap) d p) (hz : Within Try.prog 56 d) : ∃ xs : List SRow, Rd 4 SRow.l w a len xs ∧ ∀ r ∈ xs, StateIn w r.s r.A r.k r.c := by
  obtain ⟨fuel, hf⟩ := h
  obtain ⟨A, n, c, xs, e, h1, h2, h3, h4, h5⟩ := open_rows (α := SRow) (good := fun r => StateIn w r.s r.A r.k r.c) Try.underlying56 cellsState (by omega) SRow.l_len open_srow hf hz
  simp [Value.cells] at e
  obtain ⟨rfl, rfl, rfl⟩ := e
  exact ⟨xs, h1, h2⟩
end
end Go.Proofs.Ytideokbaenkijaa
