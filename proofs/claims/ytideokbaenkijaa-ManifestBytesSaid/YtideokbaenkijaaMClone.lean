/-
  bytes.Clone, owned.
-/
import Derived.Test.YtideokbaenkijaaMNum
import Derived.Test.YtideokbaenkijaaShelf
namespace Go.Proofs.Ytideokbaenkijaa
open Go.RowKit

set_option maxHeartbeats 1000000 in
set_option maxRecDepth 20000 in
theorem bcl_calls (A : Option Addr) (n ca : Nat) (xs : List Int) (w : World) (hx : RdB w A n xs) (hA : ∃ a, A = some a) (hn : n ≤ 10000000) :
    Calls Try.prog 48 #[.slice A n ca] w fun e w' => ∃ g cap, e = .returned (.slice (some ⟨g, 0, none⟩) n cap) ∧ OwnB w' w.heap.size (some ⟨g, 0, none⟩) n cap xs ∧ Below w.heap.size w w' := by
  obtain ⟨a, rfl⟩ := hA
  have hlit := Own.lit 5 1 encB w w.heap.size (Nat.le_refl _)
  have hbl : Below w.heap.size w (w.alloc (.cells #[] 5)) := (Below.refl _ _).alloc (Nat.le_refl _) _
  have HX := Lib.hid (hx.below hbl)
  have HL := Lib.hid hlit
  have HB := Lib.hid hbl
  clear hlit hbl hx
  have hq : (binOp .eql 25 (.slice (some a) n ca) (.slice none 0 0)).run Try.prog w = .ok (.bool false) w := Lib.run_eql_slice_nil w 25 5 (some a) n ca 0 0 Try.underlying25
  go_enter Try.func48, Try.ntmps48
  go_wp2_with (at_builtin; refine app_bytes rfl (.tmp 5) (.tmp 6) rfl rfl HL.out rfl (fun h => by cases h) HX.out (by omega) HB.out.size ?_; intro A' cap' w4 h1 h2 h3 h4)
  go_wp2
  go_ret
  rw [Nat.zero_add] at h1
  cases A' with
  | none => exact absurd (h4 rfl) (by simp)
  | some a' =>
    rcases h1.shape with ⟨e, _⟩ | ⟨g, e, e2, _⟩
    · cases e
    · injection e with e; subst e
      refine ⟨g, cap', rfl, h1, HB.out.trans (h2.below HB.out.size (fun i hi => by injection hi with hi; injection hi with hi; omega))⟩
end Go.Proofs.Ytideokbaenkijaa
