/-
  cell.apart, cell.covers, (*sieve).lives.
-/
import Derived.Test.YtndmlldaebdnmaaDoorCMerge
import Derived.Test.YtndmlldaebdnmaaDoorJCells
namespace Go.Proofs.YtndmlldaebdnmaaDoor
open Go.RowKit

theorem str_dec (s t : ByteArray) : (s.toList == t.toList) = decide (s = t) := by
  rw [Bool.eq_iff_iff, beq_iff_eq, decide_eq_true_eq]
  exact ⟨toList_inj, fun h => by rw [h]⟩

theorem drewN_below (w : World) : ∀ n, Below w.heap.size w (w.drewN n) := by
  have : ∀ (n : Nat) (W : World), Below w.heap.size W (W.drewN n) := by
    intro n
    induction n with
    | zero => intro W; exact Below.refl _ _
    | succ n ih => intro W; exact ((ih W).trans (Below.drew (Below.refl _ _)))
  exact fun n => this n w
set_option maxHeartbeats 1000000 in
set_option maxRecDepth 20000 in
theorem apart_calls (a b : Cell) (w : World) : Calls Tryd.prog 56 #[a.v, b.v] w fun e w' => e = .returned (.bool (!groupB a b)) ∧ Below w.heap.size w w' := by
  obtain ⟨hB, ca, cb⟩ := two_boxes w a.cells b.cells 31 31
  have HB := Lib.hid hB
  have h1 := str_dec a.row b.row
  have h2 := str_dec a.fam b.fam
  clear hB ca cb
  by_cases hr : a.row = b.row
  · rw [decide_eq_true hr] at h1
    by_cases hf : a.fam = b.fam
    · rw [decide_eq_true hf] at h2
      have HE : Hid (groupB a b = true) := group_iff.2 ⟨hr, hf⟩
      clear hr hf
      go_enter Tryd.func56, Tryd.ntmps56
      go_wp2
      go_ret
      exact ⟨ret_bool (by rw [HE.out]; rfl), HB.out⟩
    · rw [decide_eq_false hf] at h2
      have HE : Hid (groupB a b = false) := by
        cases e : groupB a b with
        | false => rfl
        | true => exact absurd (group_iff.1 e).2 hf
      clear hr hf
      go_enter Tryd.func56, Tryd.ntmps56
      go_wp2
      go_ret
      exact ⟨ret_bool (by rw [HE.out]; rfl), HB.out⟩
  · rw [decide_eq_false hr] at h1
    have HE : Hid (groupB a b = false) := by
      cases e : groupB a b with
      | false => rfl
      | true => exact absurd (group_iff.1 e).1 hr
    clear hr h2
    go_enter Tryd.func56, Tryd.ntmps56
    go_wp2
    go_ret
    exact ⟨ret_bool (by rw [HE.out]; rfl), HB.out⟩

set_option maxHeartbeats 1000000 in
set_option maxRecDepth 20000 in
theorem covers_calls (d : Cell) (t : Int) (w : World) : Calls Tryd.prog 43 #[d.v, .int .i64 t] w fun e w' => e = .returned (.bool (coversB d t)) ∧ Below w.heap.size w w' := by
  obtain ⟨hB, ca⟩ := one_box w d.cells 31
  have HB := Lib.hid hB
  clear hB ca
  by_cases h0 : d.kind = 0
  · have hk : (d.kind != 0) = false := by simp [h0]
    have HE : Hid (coversB d t = false) := by unfold Hid coversB; rw [decide_eq_false (by simpa using h0)]; rfl
    clear h0
    go_enter Tryd.func43, Tryd.ntmps43
    go_wp2
    go_ret
    exact ⟨ret_bool (by rw [HE.out]), HB.out⟩
  · have hk : (d.kind != 0) = true := by simp [h0]
    have HE : Hid (coversB d t = decide (t ≤ d.time)) := by unfold Hid coversB; rw [decide_eq_true h0, Bool.true_and]
    clear h0
    go_enter Tryd.func43, Tryd.ntmps43
    go_wp2
    go_ret
    exact ⟨ret_bool (by rw [HE.out]), HB.out⟩
end Go.Proofs.YtndmlldaebdnmaaDoor
