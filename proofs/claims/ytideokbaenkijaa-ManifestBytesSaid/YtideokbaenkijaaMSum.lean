/-
  sum.Sum, sum.ending.
-/
import Derived.Test.YtideokbaenkijaaMConcat
namespace Go.Proofs.Ytideokbaenkijaa
open Go.RowKit

theorem chk_bound (xs : List Int) : (chkP xs).1 < 65521 ∧ (chkP xs).2 < 65521 := by
  have : ∀ (l : List Int) (s : Nat × Nat), s.1 < 65521 → s.2 < 65521 → (l.foldl chkStep s).1 < 65521 ∧ (l.foldl chkStep s).2 < 65521 := by
    intro l
    induction l with
    | nil => exact fun s h1 h2 => ⟨h1, h2⟩
    | cons c l ih => intro s _ _; exact ih _ (Nat.mod_lt _ (by decide)) (Nat.mod_lt _ (by decide))
  exact this xs (1, 0) (by decide) (by decide)
theorem chk_snoc (xs : List Int) (c : Int) : chkP (xs ++ [c]) = chkStep (chkP xs) c := by
  unfold chkP
  rw [List.foldl_append]
  rfl
theorem or_low (x y : Nat) (hx : x < 65536) (hy : y < 65536) : bits .or .i64 ((y * 65536 : Nat) : Int) (x : Int) = ((y * 65536 + x : Nat) : Int) := by
  have := bits_join .i64 63 (by decide) (fun n h0 h1 => wrap_i64_small n h0 (by omega)) 16 ((y * 65536 : Nat) : Int) (x : Int) (by omega) (by omega) (by omega) (by omega) (by omega) (by omega)
  rw [this]
  omega

set_option maxHeartbeats 1000000 in
theorem sum_calls (A : Option Addr) (n ca : Nat) (xs : List Int) (w : World) (hx : RdB w A n xs) (hb : Bytes xs) (hn : n ≤ 100000000) :
    Calls Try.prog 82 #[.slice A n ca] w fun e w' => e = .returned (.int .i64 (chkL xs)) ∧ Below w.heap.size w w' := by
  have HX := Lib.hid hx
  have HBY := Lib.hid hb
  clear hx hb
  go_enter Try.func82, Try.ntmps82
  go_wp2_with fail
  go_loopw [3, 4, 9] (fun xv yv iv wr => ∃ k px py : Nat, k ≤ n ∧ px < 65521 ∧ py < 65521 ∧ iv = .int .i64 k ∧ xv = .int .i64 px ∧ yv = .int .i64 py ∧ Hid (chkP (xs.take k) = (px, py)) ∧ Hid (Below w.heap.size w wr)) (fun _ _ iv _ => n - (intOf iv).toNat)
  case atStart => exact ⟨0, 1, 0, Nat.zero_le _, by decide, by decide, rfl, rfl, rfl, rfl, Below.refl _ _⟩
  case round =>
    obtain ⟨k, px, py, hk, hpx, hpy, rfl, rfl, rfl, HP, HB⟩ := hrel
    by_cases hlt : k < n
    · obtain ⟨c, b, off, hc, rfl, _, hc0⟩ := (HX.out.below HB.out).get k hlt
      have c0 := hc0 0 _ rfl
      simp only [Nat.mul_one, Nat.add_zero] at c0
      obtain ⟨b0, b1⟩ := HBY.out.at hc
      obtain ⟨cn, rfl⟩ : ∃ cn : Nat, c = cn := ⟨c.toNat, by omega⟩
      have HC := Lib.hid hc
      clear hc hc0
      go_wp2
      go_roundw
      case rel =>
        refine ⟨k + 1, (px + cn) % 65521, (py + (px + cn) % 65521) % 65521, by omega, Nat.mod_lt _ (by decide), Nat.mod_lt _ (by decide), by go_num, ?_, ?_, ?_, HB.out⟩
        · rw [Int.natCast_emod, Int.natCast_add]; rfl
        · rw [Int.natCast_emod, Int.natCast_add, Int.natCast_emod, Int.natCast_add]; rfl
        · unfold Hid
          rw [take_at HC.out, chk_snoc, HP.out]
          rfl
      case measure => simp [intOf]; omega
    · have hxs : xs.take k = xs := List.take_of_length_le (by rw [← HX.out.len]; omega)
      rw [hxs] at HP
      have hor := or_low px py (by omega) (by omega)
      have HO := Lib.hid hor
      go_wp2
      go_ret
      refine ⟨ret_int ?_, HB.out⟩
      rw [show (py : Int) * 65536 = ((py * 65536 : Nat) : Int) by omega, HO.out]
      unfold chkL
      rw [HP.out]

theorem endL_bytes (n : Nat) : Bytes (endL n) := by
  intro x hx
  unfold endL at hx
  simp only [List.mem_cons, List.not_mem_nil, or_false] at hx
  rcases hx with rfl | rfl | rfl | rfl <;> omega
theorem chkL_lt (xs : List Int) : chkL xs < 4294967296 := by
  have := chk_bound xs
  unfold chkL
  omega
set_option maxHeartbeats 1000000 in
theorem ending_calls (A : Option Addr) (n ca : Nat) (xs : List Int) (w : World) (hx : RdB w A n xs) (hb : Bytes xs) (hn : n ≤ 100000000) :
    Calls Try.prog 64 #[.slice A n ca] w fun e w' => ∃ g cap, e = .returned (.slice (some ⟨g, 0, none⟩) 4 cap) ∧ OwnB w' w.heap.size (some ⟨g, 0, none⟩) 4 cap (endL (chkL xs)) ∧ Below w.heap.size w w' := by
  have HS := Lib.hid (sum_calls A n ca xs w hx hb hn)
  have hlt := chkL_lt xs
  clear hx
  obtain ⟨s, hs⟩ : ∃ s, s = chkL xs := ⟨_, rfl⟩
  rw [← hs] at HS hlt ⊢
  clear hs
  go_enter Try.func64, Try.ntmps64
  go_wp2_with fail
  refine HS.out.mono ?_
  rintro e w1 ⟨rfl, hb1⟩
  have HB1 := Lib.hid hb1
  clear hb1 HS
  go_wp2
  go_ret
  refine ⟨w1.heap.size, 4, rfl, own_bytes (xs := endL s) ?_ HB1.out.size (by simp [endL]), HB1.out.alloc HB1.out.size _⟩
  have e1 : (s : Int) / 16777216 = ((s / 16777216 % 256 : Nat) : Int) := by omega
  have e2 : (s : Int) / 65536 % 256 = ((s / 65536 % 256 : Nat) : Int) := by omega
  have e3 : (s : Int) / 256 % 256 = ((s / 256 % 256 : Nat) : Int) := by omega
  have e4 : (s : Int) % 256 = ((s % 256 : Nat) : Int) := by omega
  rw [e1, e2, e3, e4]
  rfl
end Go.Proofs.Ytideokbaenkijaa
