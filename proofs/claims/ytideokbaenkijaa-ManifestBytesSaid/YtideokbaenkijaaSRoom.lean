/-
  (*Disk).Room.
-/
import Derived.Test.YtideokbaenkijaaSSize
namespace Go.Proofs.Ytideokbaenkijaa
open Go.RowKit Go.Maps

set_option maxHeartbeats 1000000 in
theorem room_calls (S : Nat → Prop) (bd : Nat) (D : DiskD) (w : World) (h : DiskAt S w bd D) (hok : D.Ok) :
    Calls Try.prog 60 #[.pointer (some ⟨bd, 0, none⟩)] w fun e w' => e = .returned (.int .i64 ((D.limit : Int) - sizeL D.files)) ∧ Below w.heap.size w w' := by
  have hcall := Lib.hid fun X => calls_later (size_calls S bd D (w.later X) (h.below (later_below w X)) hok)
  obtain ⟨bm, LA, lc, hh, M, k1, k2, k3, k4, k5⟩ := h
  have c2 := later_cell k1.cells.2.2.1
  have h1 := hok.fits
  have h2 := hok.small
  have f1 : (D.limit : Int) ≤ 16777216 := by omega
  have f2 : (sizeL D.files : Int) ≤ (D.limit : Int) := by omega
  clear k1 k2 k3 k4 k5 hok
  go_enter Try.func60, Try.ntmps60
  go_wp2_with fail
  refine wp_region_later (by kernel_rfl) (by kernel_rfl) ?_
  repeat (go_big_quiet_step ((go_at_call 22; exact hcall.out _)))
  refine wpQuiet_nil ?_
  intro W1 hW1
  have hb1 : Below w.heap.size w W1 := by
    obtain ⟨X, rfl⟩ := hW1
    exact later_below w X
  have HB := Lib.hid hb1
  clear hW1 hb1 hcall c2
  go_wp2
  go_ret
  exact ⟨rfl, HB.out⟩

end Go.Proofs.Ytideokbaenkijaa
