/-
  joistref03.Num, joistref04.Sum, four, Frame.
-/
import Derived.Test.YtideokbaenkijaaMHelp
namespace Go.Proofs.Ytideokbaenkijaa
open Go.RowKit

set_option maxHeartbeats 1000000 in
set_option maxRecDepth 20000 in
theorem rnum_calls (n : Nat) (w : World) (hn : n < 9223372036854775808) : Calls Try.prog 30 #[.int .i64 n] w (OutB (vlq n) w) := by
  have hlit := Own.lit 5 1 encB w w.heap.size (Nat.le_refl _)
  have hbl : Below w.heap.size w (w.alloc (.cells #[] 5)) := (Below.refl _ _).alloc (Nat.le_refl _) _
  have h0 : ¬ ((n : Int) < 0) := by omega
  have HL := Lib.hid hlit
  have HB0 := Lib.hid hbl
  clear hlit hbl
  go_enter Try.func30, Try.ntmps30
  go_wp2_with fail
  go_loopg [0, 3] n (fun gk nv o wr => ∃ (m k cap : Nat) (A : Option Addr) (l : List Int), nv = .int .i64 m ∧ m = gk ∧ m < 9223372036854775808 ∧ o = .slice A k cap ∧ Hid (OwnB wr w.heap.size A k cap l) ∧ Hid (Below w.heap.size w wr) ∧ Hid (l ++ vlq m = vlq n) ∧ Hid (k ≤ 10 ∧ m * 128 ^ k ≤ n))
  case atStart => exact ⟨n, 0, 0, _, [], rfl, rfl, hn, rfl, HL.out, HB0.out, rfl, by omega, by omega⟩
  case round =>
    clear h0 HL HB0
    obtain ⟨m, k, cap, A, l, rfl, rfl, hm, rfl, HOW, HB, hl, hk⟩ := hrel
    have hsz := HB.out.size
    have hkk : k ≤ 10 := hk.out.1
    by_cases hlt : 127 < m
    · have HE : Hid (128 + (m : Int) % 128 = ((m % 128 + 128 : Nat) : Int)) := by unfold Hid; omega
      have hgt : (m : Int) ≥ 128 := by omega
      have hdiv : (m : Int) / 128 = ((m / 128 : Nat) : Int) := by omega
      have HD := Lib.hid hdiv
      clear hdiv
      go_wp2_with (at_builtin; refine app_byte rfl (.tmp 10) (.tmp 15) rfl _ rfl HOW.out rfl rfl (by omega) hsz ?_; intro g cap' w5 h1 h2 h3 h4)
      have hb2 := HB.out.trans (h2.below hsz (own_above HOW.out))
      have hm2 : m / 128 * 128 ^ (k + 1) ≤ n := by
        have h5 := hk.out.2
        rw [Nat.pow_succ, Nat.mul_comm (128 ^ k), ← Nat.mul_assoc]
        exact Nat.le_trans (Nat.mul_le_mul_right _ (Nat.div_mul_le_self m 128)) h5
      have hk10 : k + 1 ≤ 10 := by
        rcases Nat.lt_or_ge k 9 with h | h
        · omega
        · exfalso
          have h5 := hk.out.2
          have h6 : 128 ^ 9 ≤ 128 ^ k := Nat.pow_le_pow_right (by omega) h
          have h7 : 1 * 128 ^ 9 ≤ m * 128 ^ k := Nat.mul_le_mul (by omega) h6
          have h8 : (128 : Nat) ^ 9 = 9223372036854775808 := by decide
          omega
      go_roundg (m / 128)
      case measure => omega
      case rel =>
        refine ⟨m / 128, k + 1, cap', some ⟨g, 0, none⟩, l ++ [128 + (m : Int) % 128], ?_, rfl, by omega, rfl, h1, hb2, ?_, hk10, hm2⟩
        · rw [HD.out]
        · unfold Hid; rw [List.append_assoc, HE.out]; rw [← hl.out, vlq_more hlt]; rfl
    · have hw : IntKind.u8.wrap (m : Int) = (m : Int) := by rw [IntKind.wrap_u8]; omega
      have hle : ¬ ((m : Int) ≥ 128) := by omega
      go_wp2_with (at_builtin; refine app_byte rfl (.tmp 19) (.tmp 22) rfl _ rfl HOW.out rfl rfl (by omega) hsz ?_; intro g cap' w5 h1 h2 h3 h4)
      have hb2 := HB.out.trans (h2.below hsz (own_above HOW.out))
      rw [vlq_last hlt] at hl
      rw [hl.out] at h1
      go_wp2
      go_ret
      exact ⟨_, _, cap', rfl, h1, hb2⟩
set_option maxHeartbeats 1000000 in
theorem rsum_calls (A : Option Addr) (n ca : Nat) (xs : List Int) (w : World) (hx : RdB w A n xs) (hb : Bytes xs) (hn : n ≤ 100000000) :
    Calls Try.prog 42 #[.slice A n ca] w fun e w' => e = .returned (.int .i64 (chkL xs)) ∧ Below w.heap.size w w' := by
  have HX := Lib.hid hx
  have HBY := Lib.hid hb
  clear hx hb
  go_enter Try.func42, Try.ntmps42
  go_wp2_with fail
  go_loopw [3, 4, 5] (fun xv yv iv wr => ∃ k px py : Nat, k ≤ n ∧ px < 65521 ∧ py < 65521 ∧ iv = .int .i64 k ∧ xv = .int .i64 px ∧ yv = .int .i64 py ∧ Hid (chkP (xs.take k) = (px, py)) ∧ Hid (Below w.heap.size w wr)) (fun _ _ iv _ => n - (intOf iv).toNat)
  case atStart => exact ⟨0, 1, 0, Nat.zero_le _, by decide, by decide, rfl, rfl, rfl, rfl, Below.refl _ _⟩
  case round =>
    obtain ⟨k, px, py, hk, hpx, hpy, rfl, rfl, rfl, HP, HB⟩ := hrel
    by_cases hlt : k < n
    · obtain ⟨c, b, off, hc, rfl, _, hc0⟩ := (HX.out.below HB.out).get k hlt
      have c0 := hc0 0 _ rfl
      simp only [Nat.mul_one, Nat.add_zero] at c0
      obtain ⟨b0, b1⟩ := HBY.out.at hc
      obtain ⟨cn, rfl⟩ : ∃ cn : Nat, c = cn := ⟨c.toNat, by omega⟩
      have HC := Lib.hid hc
      clear hc hc0
      go_wp2
      go_roundw
      case rel =>
        refine ⟨k + 1, (px + cn) % 65521, (py + (px + cn) % 65521) % 65521, by omega, Nat.mod_lt _ (by decide), Nat.mod_lt _ (by decide), by go_num, ?_, ?_, ?_, HB.out⟩
        · rw [Int.natCast_emod, Int.natCast_add]; rfl
        · rw [Int.natCast_emod, Int.natCast_add, Int.natCast_emod, Int.natCast_add]; rfl
        · unfold Hid
          rw [take_at HC.out, chk_snoc, HP.out]
          rfl
      case measure => simp [intOf]; omega
    · have hxs : xs.take k = xs := List.take_of_length_le (by rw [← HX.out.len]; omega)
      rw [hxs] at HP
      go_wp2
      go_ret
      refine ⟨ret_int ?_, HB.out⟩
      unfold chkL
      rw [HP.out]
      omega

set_option maxHeartbeats 1000000 in
theorem four_calls (s : Nat) (w : World) (hlt : s < 4294967296) :
    Calls Try.prog 41 #[.int .i64 s] w fun e w' => ∃ g cap, e = .returned (.slice (some ⟨g, 0, none⟩) 4 cap) ∧ OwnB w' w.heap.size (some ⟨g, 0, none⟩) 4 cap (endL s) ∧ Below w.heap.size w w' := by
  go_enter Try.func41, Try.ntmps41
  go_wp2
  go_ret
  refine ⟨w.heap.size, 4, rfl, own_bytes (xs := endL s) ?_ (Nat.le_refl _) (by simp [endL]), (Below.refl _ _).alloc (Nat.le_refl _) _⟩
  have e1 : (s : Int) / 16777216 % 256 = ((s / 16777216 % 256 : Nat) : Int) := by omega
  have e2 : (s : Int) / 65536 % 256 = ((s / 65536 % 256 : Nat) : Int) := by omega
  have e3 : (s : Int) / 256 % 256 = ((s / 256 % 256 : Nat) : Int) := by omega
  have e4 : (s : Int) % 256 = ((s % 256 : Nat) : Int) := by omega
  rw [e1, e2, e3, e4]
  rfl

set_option maxHeartbeats 1000000 in
set_option maxRecDepth 20000 in
theorem rframe_calls (A : Option Addr) (n ca : Nat) (xs : List Int) (w : World) (hx : RdB w A n xs) (hA : A = none → ca = 0) (hb : Bytes xs) (hn : n ≤ 60000) :
    Calls Try.prog 19 #[.slice A n ca] w fun e w' => ∃ B m cap, e = .returned (.tuple #[.slice B m cap, .bool true]) ∧ OwnB w' w.heap.size B m cap (frameL xs) ∧ Below w.heap.size w w' := by
  have HN := Lib.hid (rnum_calls n w (by omega))
  have hle : ¬ ((n : Int) > 65536) := by omega
  have HL := Lib.hid hx.len
  have HX := Lib.hid hx
  have HBY := Lib.hid hb
  have HA := Lib.hid hA
  clear hx hb hA
  go_enter Try.func19, Try.ntmps19
  go_wp2_with fail
  refine HN.out.mono ?_
  rintro e w1 ⟨B1, m1, c1, rfl, ho1, hb1⟩
  have hm1 : m1 ≤ 9 := by rw [ho1.1]; exact vlq_small (by omega)
  have HB1 := Lib.hid hb1
  have HX1 := Lib.hid (HX.out.below hb1)
  have HO1 := Lib.hid ho1
  clear ho1 hb1 HN
  go_wp2_with (at_builtin; refine app_bytes rfl (.tmp 10) (.tmp 11) rfl rfl HO1.out rfl HA.out HX1.out (by omega) HB1.out.size ?_; intro A2 cap2 w2 q1 q2 q3 q4)
  have hml := HO1.out.1
  have HB2 := Lib.hid (HB1.out.trans (q2.below HB1.out.size (own_above HO1.out)))
  have HQ1 := Lib.hid q1
  have HX2 := Lib.hid (HX.out.below HB2.out)
  have HSM := Lib.hid (rsum_calls A n ca xs w2 HX2.out HBY.out (by omega))
  clear q1 q2 q3 q4 HO1 HX1 HB1 hml
  go_wp2_with fail
  refine HSM.out.mono ?_
  rintro e w3 ⟨rfl, hb3⟩
  have HFO := Lib.hid (four_calls (chkL xs) w3 (chkL_lt xs))
  have HQ3 := Lib.hid (HQ1.out.below hb3)
  have HB3 := Lib.hid (HB2.out.trans (hb3.mono HB2.out.size))
  clear hb3 HSM HQ1 HB2
  go_wp2_with fail
  refine HFO.out.mono ?_
  rintro e w4 ⟨g4, c4, rfl, ho4, hb4⟩
  have HQ4 := Lib.hid (HQ3.out.below hb4)
  have HB4 := Lib.hid (HB3.out.trans (hb4.mono HB3.out.size))
  have HO4 := Lib.hid (ho4.rd encB_len)
  clear ho4 hb4 HFO HQ3 HB3
  go_wp2_with (at_builtin; refine app_bytes rfl (.tmp 13) (.tmp 16) rfl rfl HQ4.out rfl (fun e => by cases e) HO4.out (by omega) HB4.out.size ?_; intro A5 cap5 w5 q1 q2 q3 q4)
  have HB5 := Lib.hid (HB4.out.trans (q2.below HB4.out.size (own_above HQ4.out)))
  have hfl : vlq n ++ xs ++ endL (chkL xs) = frameL xs := by unfold frameL; rw [← HL.out]
  rw [hfl] at q1
  have HQ5 := Lib.hid q1
  clear q1 q2 q3 q4 hfl HQ4 HO4 HB4
  go_wp2_with fail
  go_ret2
  exact ⟨A5, _, cap5, rfl, HQ5.out, HB5.out⟩
end Go.Proofs.Ytideokbaenkijaa
