/-
  What the laws of this seat share: long; what is seen of what was given.
-/
import Derived.Test.YtndmlldaebdnmaaDoorWAliveW
namespace Go.Proofs.YtndmlldaebdnmaaDoor
open Go.RowKit

set_option maxHeartbeats 1000000 in
theorem longl_calls (A : Option Addr) (n ca : Nat) (xs : List Cell) (w : World) (hx : RdC w A n xs) (hn : n ≤ 140737488351232) :
    Calls Tryd.prog 10 #[.slice A n ca] w fun e w' => e = .returned (.bool (longC xs 60)) ∧ w' = w := by
  have h := Lib.hid (long_calls A n ca xs 60 w hx hn)
  clear hx hn
  go_enter Tryd.func10, Tryd.ntmps10
  go_wp2_with fail
  refine h.out.mono ?_
  rintro e w' ⟨rfl, rfl⟩
  go_wp2
  go_ret
  exact ⟨rfl, rfl⟩
theorem long_few {xs : List Cell} (h : longC xs 60 = false) : xs.length ≤ 60 := by
  unfold longC at h
  rw [Bool.or_eq_false_iff] at h
  have := of_decide_eq_false h.1
  omega
theorem seenL_len (v life now : Int) (l : List Cell) : (seenL v life now l).length ≤ l.length := by
  by_cases h : v < 1 ∨ 8 < v ∨ life < 0
  · unfold seenL
    rw [if_pos h]
    exact Nat.zero_le _
  · rw [seenL_eq h]
    exact Nat.le_trans (List.length_filter_le _ _) (sortL_len l)
theorem seenL_fits {v life now : Int} {l : List Cell} (h : ∀ c ∈ l, c.fits) : ∀ c ∈ seenL v life now l, c.fits := fun c hc => h c (sortL_sub (seenL_sub hc).1)
/-- An argument: cells that came in. -/
def ArgC (w : World) (a : Option Addr) (n ca : Nat) (xs : List Cell) : Prop := RdC w a n xs ∧ (∀ c ∈ xs, c.fits) ∧ (a = none → ca = 0) ∧ n ≤ ca ∧ ca ≤ 1466015503700
end Go.Proofs.YtndmlldaebdnmaaDoor
