/-
  codec.Num: a number's bytes.
-/
import Derived.Test.YtideokbaenkijaaMBase
import Derived.Laws.Bits128
namespace Go.Proofs.Ytideokbaenkijaa
open Go.RowKit

/-- A number's bytes. -/
def vlq (n : Nat) : List Int := if 127 < n then ((n % 128 + 128 : Nat) : Int) :: vlq (n / 128) else [(n : Int)]
termination_by n
decreasing_by omega
theorem vlq_more {n : Nat} (h : 127 < n) : vlq n = ((n % 128 + 128 : Nat) : Int) :: vlq (n / 128) := by rw [vlq, if_pos h]
theorem vlq_last {n : Nat} (h : ¬ 127 < n) : vlq n = [(n : Int)] := by rw [vlq, if_neg h]
theorem bits_or_comm (k : IntKind) (a b : Int) : bits .or k a b = bits .or k b a := by
  show k.wrap ((BitVec.ofInt k.bits a ||| BitVec.ofInt k.bits b).toNat : Int) = k.wrap ((BitVec.ofInt k.bits b ||| BitVec.ofInt k.bits a).toNat : Int)
  rw [BitVec.or_comm]
theorem i64_or128 (y : Int) (h0 : 0 ≤ y) (h1 : y < 128) : bits .or .i64 y 128 = y + 128 := by
  rw [bits_or_comm, bits_join .i64 63 (by decide) (fun n h0 h1 => wrap_i64_small n h0 (by omega)) 7 128 y (by omega) (by decide) (by omega) h0 (by omega) (by omega)]
  omega

set_option maxHeartbeats 1000000 in
theorem num_calls (n : Nat) (w : World) (hn : n < 9223372036854775808) : Calls Try.prog 28 #[.int .i64 n] w (OutB (vlq n) w) := by
  have hown0 := Own.nil 5 1 encB w w.heap.size
  have hb0 := Below.refl w.heap.size w
  have h0 : ¬ ((n : Int) < 0) := by omega
  go_enter Try.func28, Try.ntmps28
  go_wp2_with fail
  go_loopg [0, 3] n (fun gk nv o wr => ∃ (m k cap : Nat) (A : Option Addr) (l : List Int), nv = .int .i64 m ∧ m = gk ∧ m < 9223372036854775808 ∧ o = .slice A k cap ∧ OwnB wr w.heap.size A k cap l ∧ Below w.heap.size w wr ∧ Hid (l ++ vlq m = vlq n) ∧ Hid (k ≤ 10 ∧ m * 128 ^ k ≤ n))
  case atStart => exact ⟨n, 0, 0, none, [], rfl, rfl, hn, rfl, hown0, hb0, rfl, by omega, by omega⟩
  case round =>
    clear hown0 hb0 h0
    obtain ⟨m, k, cap, A, l, rfl, rfl, hm, rfl, hown, hb, hl, hk⟩ := hrel
    have hsz := hb.size
    have hkk : k ≤ 10 := hk.out.1
    by_cases hlt : 127 < m
    · have hand := i64_and127 (m : Int)
      have hor : bits .or .i64 ((m : Int) % 128) 128 = ((m % 128 + 128 : Nat) : Int) := by rw [i64_or128 _ (by omega) (by omega)]; omega
      have hw : IntKind.u8.wrap ((m % 128 + 128 : Nat) : Int) = ((m % 128 + 128 : Nat) : Int) := by rw [IntKind.wrap_u8]; omega
      have hgt : (m : Int) > 127 := by omega
      have hdiv : (m : Int) / 128 = ((m / 128 : Nat) : Int) := by omega
      have HD := Lib.hid hdiv
      clear hdiv
      go_wp2_with (at_builtin; refine app_byte rfl (.tmp 8) (.tmp 13) rfl _ rfl hown rfl rfl (by omega) hsz ?_; intro g cap' w5 h1 h2 h3 h4)
      have hb2 := hb.trans (h2.below hsz (own_above hown))
      have hm2 : m / 128 * 128 ^ (k + 1) ≤ n := by
        have h5 := hk.out.2
        rw [Nat.pow_succ, Nat.mul_comm (128 ^ k), ← Nat.mul_assoc]
        exact Nat.le_trans (Nat.mul_le_mul_right _ (Nat.div_mul_le_self m 128)) h5
      have hk10 : k + 1 ≤ 10 := by
        rcases Nat.lt_or_ge k 9 with h | h
        · omega
        · exfalso
          have h5 := hk.out.2
          have h6 : 128 ^ 9 ≤ 128 ^ k := Nat.pow_le_pow_right (by omega) h
          have h7 : 1 * 128 ^ 9 ≤ m * 128 ^ k := Nat.mul_le_mul (by omega) h6
          have h8 : (128 : Nat) ^ 9 = 9223372036854775808 := by decide
          omega
      go_roundg (m / 128)
      case measure => omega
      case rel =>
        refine ⟨m / 128, k + 1, cap', some ⟨g, 0, none⟩, l ++ [((m % 128 + 128 : Nat) : Int)], ?_, rfl, by omega, rfl, h1, hb2, ?_, hk10, hm2⟩
        · rw [HD.out]
        · unfold Hid; rw [List.append_assoc]; rw [← hl.out, vlq_more hlt]; rfl
    · have hw : IntKind.u8.wrap (m : Int) = (m : Int) := by rw [IntKind.wrap_u8]; omega
      have hle : ¬ ((m : Int) > 127) := by omega
      go_wp2_with (at_builtin; refine app_byte rfl (.tmp 17) (.tmp 20) rfl _ rfl hown rfl rfl (by omega) hsz ?_; intro g cap' w5 h1 h2 h3 h4)
      have hb2 := hb.trans (h2.below hsz (own_above hown))
      rw [vlq_last hlt] at hl
      rw [hl.out] at h1
      go_wp2
      go_ret
      exact ⟨_, _, cap', rfl, h1, hb2⟩
theorem vlq_len : ∀ (k n : Nat), n < 128 ^ (k + 1) → (vlq n).length ≤ k + 1
  | 0, n, h => by rw [vlq_last (by omega)]; simp
  | k + 1, n, h => by
    by_cases hlt : 127 < n
    · rw [vlq_more hlt, List.length_cons]
      have := vlq_len k (n / 128) (by rw [Nat.div_lt_iff_lt_mul (by omega), ← Nat.pow_succ]; exact h)
      omega
    · rw [vlq_last hlt]; simp
theorem vlq_small {n : Nat} (h : n < 9223372036854775808) : (vlq n).length ≤ 9 := vlq_len 8 n (by
  have h8 : (128 : Nat) ^ (8 + 1) = 9223372036854775808 := by decide
  omega)
theorem numneg_calls (n : Int) (w : World) (hn : n < 0) : Calls Try.prog 28 #[.int .i64 n] w fun e w' => e = .returned (.slice none 0 0) ∧ w' = w := by
  go_enter Try.func28, Try.ntmps28
  go_wp2
  go_ret
  exact ⟨rfl, rfl⟩
end Go.Proofs.Ytideokbaenkijaa
