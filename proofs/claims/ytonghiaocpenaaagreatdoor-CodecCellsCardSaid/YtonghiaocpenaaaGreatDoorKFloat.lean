/-
  float.Bytes: the eight bytes of a float's rank.
-/
import Derived.Test.YtonghiaocpenaaaGreatDoorKEsc
namespace Go.Proofs.YtonghiaocpenaaaGreatDoor
open Go.RowKit

theorem or_top (u : Int) (h0 : 0 ≤ u) (h1 : u < 9223372036854775808) : bits .or .u64 u 9223372036854775808 = u + 9223372036854775808 := by
  rw [u64_or u _ h0 (by omega) (by omega) (by omega), Nat.or_comm]
  obtain ⟨m, rfl⟩ := Int.eq_ofNat_of_zero_le h0
  have := Nat.two_pow_add_eq_or_of_lt (i := 63) (b := m) (by omega) 1
  rw [show ((9223372036854775808 : Int).toNat) = 2 ^ 63 * 1 from by decide]
  rw [Int.toNat_natCast, ← this]
  omega
theorem and_top (u : Int) (h0 : 0 ≤ u) (h1 : u < 18446744073709551616) : bits .and .u64 u 9223372036854775808 = if 9223372036854775808 ≤ u then 9223372036854775808 else 0 := by
  rw [u64_and u _ h0 (by omega) (by omega) (by omega)]
  obtain ⟨m, rfl⟩ := Int.eq_ofNat_of_zero_le h0
  rw [show ((9223372036854775808 : Int).toNat) = 2 ^ 63 from by decide, Int.toNat_natCast]
  have h2 : (m &&& 2 ^ 63) % 2 ^ 63 = 0 := by
    rw [Nat.and_mod_two_pow]; simp
  have h3 : (m &&& 2 ^ 63) / 2 ^ 63 = m / 2 ^ 63 &&& 1 := by
    rw [Nat.and_div_two_pow]
  have h4 : m / 2 ^ 63 = 0 ∨ m / 2 ^ 63 = 1 := by omega
  generalize m &&& 2 ^ 63 = x at h2 h3
  rcases h4 with h4 | h4
  · rw [h4] at h3
    have : (0 &&& 1 : Nat) = 0 := rfl
    rw [if_neg (by omega)]
    omega
  · rw [h4] at h3
    have : (1 &&& 1 : Nat) = 1 := rfl
    rw [if_pos (by omega)]
    omega
theorem xor_max (u : Int) (h0 : 0 ≤ u) (h1 : u < 18446744073709551616) : bits .xor .u64 IntKind.u64.max u = 18446744073709551615 - u := by
  show IntKind.u64.wrap ((BitVec.ofInt 64 18446744073709551615 ^^^ BitVec.ofInt 64 u).toNat : Int) = _
  have e : BitVec.ofInt 64 18446744073709551615 = BitVec.allOnes 64 := by decide
  rw [e, BitVec.allOnes_xor, BitVec.toNat_not, ofInt64_toNat, IntKind.wrap_u64]
  omega
theorem xor_top (u : Int) (h0 : 0 ≤ u) (h1 : u < 18446744073709551616) : bits .xor .u64 u 9223372036854775808 = (u + 9223372036854775808) % 18446744073709551616 := by
  rw [u64_xor u _ h0 (by omega) (by omega) (by omega)]
  obtain ⟨m, rfl⟩ := Int.eq_ofNat_of_zero_le h0
  rw [show ((9223372036854775808 : Int).toNat) = 2 ^ 63 from by decide, Int.toNat_natCast]
  have h2 : (m ^^^ 2 ^ 63) % 2 ^ 63 = m % 2 ^ 63 := by
    rw [Nat.xor_mod_two_pow]; simp
  have h3 : (m ^^^ 2 ^ 63) / 2 ^ 63 = m / 2 ^ 63 ^^^ 1 := by
    rw [Nat.xor_div_two_pow]
  have h4 : m / 2 ^ 63 = 0 ∨ m / 2 ^ 63 = 1 := by omega
  generalize m ^^^ 2 ^ 63 = x at h2 h3
  rcases h4 with h4 | h4
  · rw [h4] at h3
    have : (0 ^^^ 1 : Nat) = 1 := rfl
    omega
  · rw [h4] at h3
    have : (1 ^^^ 1 : Nat) = 0 := rfl
    omega

theorem negative_calls (u : Int) (w : World) (h0 : 0 ≤ u) (h1 : u < 18446744073709551616) : Calls Tryz.prog 87 #[.int .u64 u] w fun e w' => e = .returned (.bool (decide (9223372036854775808 ≤ u))) ∧ w' = w := by
  have ht := and_top u h0 h1
  by_cases hc : 9223372036854775808 ≤ u
  · rw [if_pos hc] at ht
    go_enter Tryz.func87, Tryz.ntmps87
    go_wp2
    go_ret
    exact ⟨ret_bool (by simp [hc]), rfl⟩
  · rw [if_neg hc] at ht
    go_enter Tryz.func87, Tryz.ntmps87
    go_wp2
    go_ret
    exact ⟨ret_bool (by simp [hc]), rfl⟩
/-- A float's rank. -/
def rankN (u : Int) : Int := if 9223372036854775808 ≤ u then 18446744073709551615 - u else u + 9223372036854775808
theorem rank_calls (u : Int) (w : World) (h0 : 0 ≤ u) (h1 : u < 18446744073709551616) (hok : floatOk u = true) : Calls Tryz.prog 81 #[.int .u64 u] w fun e w' => e = .returned (.int .u64 (rankN u)) ∧ w' = w := by
  have hr := bright_calls u w h0 h1
  rw [hok] at hr
  have hn := negative_calls u w h0 h1
  have HR := Lib.hid hr
  have HOK := Lib.hid hok
  clear hr hok
  by_cases hc : 9223372036854775808 ≤ u
  · rw [decide_eq_true hc] at hn
    have HN := Lib.hid hn
    have he : rankN u = 18446744073709551615 - u := if_pos hc
    have HE := Lib.hid he
    clear hn he
    go_enter Tryz.func81, Tryz.ntmps81
    go_wp2_with (go_at_call 73; refine HR.out.mono ?_; rintro e w' ⟨rfl, rfl⟩)
    go_wp2_with (go_at_call 87; refine HN.out.mono ?_; rintro e w' ⟨rfl, rfl⟩)
    go_wp2
    go_ret
    refine ⟨?_, rfl⟩
    show Ending.returned (Value.int .u64 (bits .xor .u64 IntKind.u64.max u)) = _
    rw [xor_max u h0 h1, HE.out]
  · rw [decide_eq_false hc] at hn
    have HN := Lib.hid hn
    have he : rankN u = u + 9223372036854775808 := if_neg hc
    have HE := Lib.hid he
    have ho := or_top u h0 (by omega)
    have HO := Lib.hid ho
    clear hn he ho
    go_enter Tryz.func81, Tryz.ntmps81
    go_wp2_with (go_at_call 73; refine HR.out.mono ?_; rintro e w' ⟨rfl, rfl⟩)
    go_wp2_with (go_at_call 87; refine HN.out.mono ?_; rintro e w' ⟨rfl, rfl⟩)
    go_wp2
    go_ret
    refine ⟨?_, rfl⟩
    show Ending.returned (Value.int .u64 (bits .or .u64 u 9223372036854775808)) = _
    rw [HO.out, HE.out]
theorem rank_range (u : Int) (h0 : 0 ≤ u) (h1 : u < 18446744073709551616) : 0 ≤ rankN u ∧ rankN u < 18446744073709551616 := by
  unfold rankN
  split <;> omega

set_option maxHeartbeats 1000000 in
theorem fbytes_calls (n : Int) (w : World) (hn : isInt n) (hok : floatOk n = true) : Calls Tryz.prog 70 #[.int .i64 n] w (OutB (eightL (rankN (n % 18446744073709551616))) w) := by
  have hown0 := Own.nil 5 1 encB w w.heap.size
  have hb0 := Below.refl w.heap.size w
  obtain ⟨e0, e1, e2⟩ := floatOk_wrap n hn.1 hn.2
  have ew : IntKind.u64.wrap n = n % 18446744073709551616 := IntKind.wrap_u64 n
  rw [ew] at e0 e1 e2
  rw [hok] at e2
  have hf := fright_calls n w hn.1 hn.2
  rw [hok] at hf
  have hr := rank_calls (n % 18446744073709551616) w e0 e1 e2
  obtain ⟨r0, r1⟩ := rank_range _ e0 e1
  have HF := Lib.hid hf
  have HR := Lib.hid hr
  have HW := Lib.hid ew
  clear hf hr ew e2 hok
  go_enter Tryz.func70, Tryz.ntmps70
  go_wp2_with (go_at_call 55; refine HF.out.mono ?_; rintro e w ⟨rfl, rfl⟩)
  go_wp2_with (go_at_call 81; refine HR.out.mono ?_; rintro e w ⟨rfl, rfl⟩)
  generalize hu : rankN (n % 18446744073709551616) = u at *
  clear hu
  go_loopg [4, 5] 8 (fun gk o s wr => ∃ (k cap : Nat) (A : Option Addr), s = .int .i64 (56 - 8 * (k : Int)) ∧ k ≤ 8 ∧ gk = 8 - k ∧ o = .slice A k cap ∧ OwnB wr w.heap.size A k cap ((eightL u).take k) ∧ Below w.heap.size w wr)
  case atStart => exact ⟨0, 0, none, rfl, by omega, rfl, rfl, hown0, hb0⟩
  case round =>
    clear hown0 hb0
    obtain ⟨k, cap, A, rfl, hk, rfl, rfl, hown, hb⟩ := hrel
    by_cases hlt : k < 8
    · have hsz := hb.size
      rcases (by omega : k = 0 ∨ k = 1 ∨ k = 2 ∨ k = 3 ∨ k = 4 ∨ k = 5 ∨ k = 6 ∨ k = 7) with rfl | rfl | rfl | rfl | rfl | rfl | rfl | rfl
      · go_wp2_with (at_builtin; refine app_byte rfl (.tmp 16) (.tmp 21) rfl _ rfl hown rfl rfl (by omega) hsz ?_; intro g cap' w5 h1 h2 h3 h4)
        have hb2 := hb.trans (h2.below hsz (own_above hown))
        go_roundg 7
        case measure => omega
        case rel => exact ⟨1, cap', some ⟨g, 0, none⟩, rfl, by omega, rfl, rfl, h1, hb2⟩
      · go_wp2_with (at_builtin; refine app_byte rfl (.tmp 16) (.tmp 21) rfl _ rfl hown rfl rfl (by omega) hsz ?_; intro g cap' w5 h1 h2 h3 h4)
        have hb2 := hb.trans (h2.below hsz (own_above hown))
        go_roundg 6
        case measure => omega
        case rel => exact ⟨2, cap', some ⟨g, 0, none⟩, rfl, by omega, rfl, rfl, h1, hb2⟩
      · go_wp2_with (at_builtin; refine app_byte rfl (.tmp 16) (.tmp 21) rfl _ rfl hown rfl rfl (by omega) hsz ?_; intro g cap' w5 h1 h2 h3 h4)
        have hb2 := hb.trans (h2.below hsz (own_above hown))
        go_roundg 5
        case measure => omega
        case rel => exact ⟨3, cap', some ⟨g, 0, none⟩, rfl, by omega, rfl, rfl, h1, hb2⟩
      · go_wp2_with (at_builtin; refine app_byte rfl (.tmp 16) (.tmp 21) rfl _ rfl hown rfl rfl (by omega) hsz ?_; intro g cap' w5 h1 h2 h3 h4)
        have hb2 := hb.trans (h2.below hsz (own_above hown))
        go_roundg 4
        case measure => omega
        case rel => exact ⟨4, cap', some ⟨g, 0, none⟩, rfl, by omega, rfl, rfl, h1, hb2⟩
      · go_wp2_with (at_builtin; refine app_byte rfl (.tmp 16) (.tmp 21) rfl _ rfl hown rfl rfl (by omega) hsz ?_; intro g cap' w5 h1 h2 h3 h4)
        have hb2 := hb.trans (h2.below hsz (own_above hown))
        go_roundg 3
        case measure => omega
        case rel => exact ⟨5, cap', some ⟨g, 0, none⟩, rfl, by omega, rfl, rfl, h1, hb2⟩
      · go_wp2_with (at_builtin; refine app_byte rfl (.tmp 16) (.tmp 21) rfl _ rfl hown rfl rfl (by omega) hsz ?_; intro g cap' w5 h1 h2 h3 h4)
        have hb2 := hb.trans (h2.below hsz (own_above hown))
        go_roundg 2
        case measure => omega
        case rel => exact ⟨6, cap', some ⟨g, 0, none⟩, rfl, by omega, rfl, rfl, h1, hb2⟩
      · go_wp2_with (at_builtin; refine app_byte rfl (.tmp 16) (.tmp 21) rfl _ rfl hown rfl rfl (by omega) hsz ?_; intro g cap' w5 h1 h2 h3 h4)
        have hb2 := hb.trans (h2.below hsz (own_above hown))
        go_roundg 1
        case measure => omega
        case rel => exact ⟨7, cap', some ⟨g, 0, none⟩, rfl, by omega, rfl, rfl, h1, hb2⟩
      · go_wp2_with (at_builtin; refine app_byte rfl (.tmp 16) (.tmp 21) rfl _ rfl hown rfl rfl (by omega) hsz ?_; intro g cap' w5 h1 h2 h3 h4)
        have hb2 := hb.trans (h2.below hsz (own_above hown))
        go_roundg 0
        case measure => omega
        case rel => exact ⟨8, cap', some ⟨g, 0, none⟩, rfl, by omega, rfl, rfl, h1, hb2⟩
    · obtain rfl : k = 8 := by omega
      go_wp2
      go_ret
      exact ⟨A, 8, cap, rfl, hown, hb⟩
end Go.Proofs.YtonghiaocpenaaaGreatDoor
