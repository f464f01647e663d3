/-
  The law package's alive (merge): a closed case.
-/
import Derived.Test.YtmabmnkdigdaiaaDoorJLaws
namespace Go.Proofs.YtmabmnkdigdaiaaDoor
open Go.RowKit

abbrev sa : ByteArray := ⟨#[97]⟩
abbrev sb : ByteArray := ⟨#[98]⟩
abbrev sc : ByteArray := ⟨#[99]⟩
def aliveL : List (List Cell) := [[putC sb 1], [putC sa 2, putC sb 3, putC sc 4]]

theorem best_of {L : List (List Cell)} {t : Nat} {c : Cell} (h1 : (L[t]?).bind List.head? = some c) (h2 : ((List.range L.length).all fun i => match L[i]? with
    | some (d :: _) => decide (c.order d < 0) || (decide (c.order d = 0) && decide (t ≤ i))
    | _ => true) = true) : IsBest L t c := by
  refine ⟨?_, fun i d ys hi => ?_⟩
  · cases h : L[t]? with
    | none => rw [h] at h1; cases h1
    | some l =>
      rw [h] at h1
      cases l with
      | nil => cases h1
      | cons d ys =>
        have : d = c := by simpa using h1
        exact ⟨ys, by rw [this]⟩
  · have h3 := List.all_eq_true.1 h2 i (List.mem_range.2 (List.getElem?_eq_some_iff.1 hi).1)
    rw [hi] at h3
    simpa using h3
theorem alive_beg : aliveL.map begC = aliveL := by kernel_rfl
theorem alive_merged : Merged aliveL [putC sa 2, putC sb 1, putC sc 4] :=
  .step (t := 1) (best_of (by kernel_rfl) (by kernel_rfl)) (.step (t := 0) (best_of (by kernel_rfl) (by kernel_rfl)) (.step (t := 1) (best_of (by kernel_rfl) (by kernel_rfl)) (.done (fun l hl => by
    have e : nextD (putC sc 4) (nextD (putC sb 1) (nextD (putC sa 2) aliveL)) = [[], []] := by kernel_rfl
    rw [e] at hl
    simpa using hl))))
theorem alive_skip : skipD (putC sb 0) aliveL = [[putC sb 1], [putC sb 3, putC sc 4]] := by kernel_rfl
theorem alive_best : IsBest (skipD (putC sb 0) aliveL) 0 (putC sb 1) := by rw [alive_skip]; exact best_of (by kernel_rfl) (by kernel_rfl)
theorem alive_next : leftC (nextD (putC sb 1) (skipD (putC sb 0) aliveL)) = 1 := by kernel_rfl
theorem alive_left : leftC aliveL = 4 := by kernel_rfl
theorem alive_below : belowC sb [putC sa 2, putC sb 1, putC sc 4] = [putC sa 2] := by kernel_rfl
theorem alive_others : othersC sb [putC sa 2, putC sb 1, putC sc 4] = [putC sb 1, putC sc 4] := by kernel_rfl
theorem put_fits (r : ByteArray) (n : Int) (hr : r.size ≤ 140737488351232) (hn : isInt n) : (putC r n).fits :=
  ⟨hr, show (1 : Nat) ≤ _ by decide, show (1 : Nat) ≤ _ by decide, show (0 : Nat) ≤ _ by decide, show isInt 1 by unfold isInt; decide, show isInt 1 by unfold isInt; decide, show isInt 1 by unfold isInt; decide, hn⟩
end Go.Proofs.YtmabmnkdigdaiaaDoor
