/-
  codec.Take: the number at the beginning of bytes.
-/
import Derived.Test.YtideokbaenkijaaMClone
namespace Go.Proofs.Ytideokbaenkijaa
open Go.RowKit

/-- What Take finds from place i on, with acc so far: the number, and the bytes behind it. -/
def takeV (i acc : Nat) : List Int → Option (Nat × List Int)
  | [] => none
  | c :: r => if 9 ≤ i then none else if 128 ≤ c then takeV (i + 1) (acc + (c % 128).toNat * 128 ^ i) r else if 0 < i ∧ c = 0 then none else some (acc + c.toNat * 128 ^ i, r)
def Bytes (xs : List Int) : Prop := ∀ x ∈ xs, 0 ≤ x ∧ x < 256
theorem Bytes.at {xs : List Int} (h : Bytes xs) {k : Nat} {x : Int} (hx : xs[k]? = some x) : 0 ≤ x ∧ x < 256 := h x (List.mem_of_getElem? hx)
theorem u8_and127 (c : Int) (h0 : 0 ≤ c) (h1 : c < 256) : bits .and .u8 c 127 = c % 128 := bits_mask .u8 8 (by decide) wraps_u8 7 (by decide) c h0 h1
theorem u8_and128 (c : Int) (h0 : 0 ≤ c) (h1 : c < 256) : bits .and .u8 c 128 = if 128 ≤ c then 128 else 0 := by
  rw [u8_and c _ h0 h1 (by omega) (by omega)]
  obtain ⟨m, rfl⟩ := Int.eq_ofNat_of_zero_le h0
  rw [show ((128 : Int).toNat) = 2 ^ 7 from by decide, Int.toNat_natCast]
  have h2 : (m &&& 2 ^ 7) % 2 ^ 7 = 0 := by
    rw [Nat.and_mod_two_pow]; simp
  have h3 : (m &&& 2 ^ 7) / 2 ^ 7 = m / 2 ^ 7 &&& 1 := by
    rw [Nat.and_div_two_pow]
  have h4 : m / 2 ^ 7 = 0 ∨ m / 2 ^ 7 = 1 := by omega
  generalize m &&& 2 ^ 7 = x at h2 h3
  rcases h4 with h4 | h4
  · rw [h4] at h3
    have : (0 &&& 1 : Nat) = 0 := rfl
    rw [if_neg (by omega)]
    omega
  · rw [h4] at h3
    have : (1 &&& 1 : Nat) = 1 := rfl
    rw [if_pos (by omega)]
    omega
theorem drop_at {xs : List Int} {k : Nat} {x : Int} (h : xs[k]? = some x) : xs.drop k = x :: xs.drop (k + 1) := by
  rw [List.drop_eq_getElem_cons (List.getElem?_eq_some_iff.1 h).1]
  have := (List.getElem?_eq_some_iff.1 h).2
  rw [this]
theorem pow_128 (k : Nat) : (2 : Int) ^ (7 * k) = ((128 ^ k : Nat) : Int) := by
  have : (2 : Nat) ^ (7 * k) = 128 ^ k := by rw [Nat.pow_mul]
  rw [← this]
  simp
theorem or_vlq (k acc : Nat) (c : Int) (hk : k ≤ 8) (ha : acc < 128 ^ k) : bits .or .i64 (acc : Int) (wrap64 (c % 128 * 2 ^ (7 * k))) = ((acc + (c % 128).toNat * 128 ^ k : Nat) : Int) := by
  have hp : 128 ^ k ≤ 72057594037927936 := Nat.le_trans (Nat.pow_le_pow_right (by omega) hk) (by decide)
  obtain ⟨m, hm⟩ : ∃ m : Nat, (m : Int) = c % 128 := ⟨(c % 128).toNat, by omega⟩
  have hm1 : m < 128 := by omega
  rw [pow_128, ← hm, Int.toNat_natCast]
  have hmul : m * 128 ^ k ≤ 127 * 72057594037927936 := Nat.mul_le_mul (by omega) hp
  have e : ((m : Int) * ((128 ^ k : Nat) : Int)) = ((m * 128 ^ k : Nat) : Int) := by simp
  rw [e]
  have hw : wrap64 ((m * 128 ^ k : Nat) : Int) = ((m * 128 ^ k : Nat) : Int) := by
    unfold wrap64; omega
  rw [hw, bits_or_comm]
  have h7 : (2 : Nat) ^ (7 * k) = 128 ^ k := by rw [Nat.pow_mul]
  have hi : ((2 : Int) ^ (7 * k)) = ((128 ^ k : Nat) : Int) := pow_128 k
  rw [bits_join .i64 63 (by decide) (fun n h0 h1 => wrap_i64_small n h0 (by omega)) (7 * k) _ _ (by omega) (by rw [hi]; exact_mod_cast Nat.mul_mod_left m (128 ^ k)) (by omega) (by omega) (by rw [hi]; omega) (by omega)]
  omega
theorem rdb_drop {w : World} {b off n : Nat} {xs : List Int} (h : RdB w (some ⟨b, off, none⟩) n xs) (k : Nat) : RdB w (some ⟨b, off + k, none⟩) (n - k) (xs.drop k) :=
  ⟨by rw [List.length_drop, h.len], fun i c hc => by
    rw [List.getElem?_drop] at hc
    obtain ⟨b', off', h1, h2, h3⟩ := h.at_ (k + i) c hc
    injection h1 with h1
    injection h1 with e1 e2 _
    subst e1; subst e2
    exact ⟨b, off + k, rfl, h2, fun j v hj => by
      have := h3 j v hj
      rwa [show off + (k + i) * 1 + j = off + k + i * 1 + j from by omega] at this⟩⟩
/-- Take's answer. -/
def TakeOut (xs : List Int) (w : World) (e : Ending) (w' : World) : Prop :=
  Below w.heap.size w w' ∧ ((takeV 0 0 xs = none ∧ e = .returned (.tuple #[.int .i64 0, .slice none 0 0, .bool false])) ∨
    ∃ (v : Nat) (ys : List Int) (g cap : Nat), takeV 0 0 xs = some (v, ys) ∧ v < 9223372036854775808 ∧ e = .returned (.tuple #[.int .i64 v, .slice (some ⟨g, 0, none⟩) ys.length cap, .bool true]) ∧ OwnB w' w.heap.size (some ⟨g, 0, none⟩) ys.length cap ys)

set_option maxHeartbeats 2000000 in
set_option maxRecDepth 20000 in
theorem take_calls (b off n cap : Nat) (xs : List Int) (w : World) (hx : RdB w (some ⟨b, off, none⟩) n xs) (hb : Bytes xs) (hn : n ≤ 1000000) (hcap : n ≤ cap) (hcm : cap ≤ maxLen) :
    Calls Try.prog 31 #[.slice (some ⟨b, off, none⟩) n cap] w (TakeOut xs w) := by
  have hlen := hx.len
  obtain ⟨q, hq⟩ : ∃ q, q = min n 9 := ⟨_, rfl⟩
  have hmin : min (n : Int) 9 = (q : Int) := by omega
  have hmax : max (q : Int) 0 = (q : Int) := by omega
  have hq9 : q ≤ 9 := by omega
  have hqn : q ≤ n := by omega
  have HQ := Lib.hid hq
  clear hq
  unfold maxLen at hcm
  have HX := Lib.hid hx
  have HBY := Lib.hid hb
  have HL := Lib.hid hlen
  clear hx hb hlen
  go_enter Try.func31, Try.ntmps31
  go_wp2_with fail
  go_loopg [5, 14] q (fun gk av iv wr => ∃ (k acc : Nat), av = .int .i64 acc ∧ iv = .int .i64 k ∧ k ≤ q ∧ gk = q - k ∧ acc < 128 ^ k ∧ Hid (takeV 0 0 xs = takeV k acc (xs.drop k)) ∧ wr = w)
  case atStart => exact ⟨0, 0, rfl, rfl, Nat.zero_le _, rfl, by decide, rfl, rfl⟩
  case round =>
    obtain ⟨k, acc, rfl, rfl, hk, rfl, hacc, htk, rfl⟩ := hrel
    by_cases hlt : k < q
    · obtain ⟨c, bb, oo, hc, hA, hbl, hcell⟩ := HX.out.get k (by omega)
      injection hA with hA
      injection hA with e1 e2 _
      subst e1; subst e2
      have hcell := hcell 0 _ rfl
      rw [Nat.mul_one, Nat.add_zero] at hcell
      obtain ⟨hc0, hc1⟩ := HBY.out.at hc
      have h127 := u8_and127 c hc0 hc1
      have h128 := u8_and128 c hc0 hc1
      have HC := Lib.hid hc
      have hkq : (k : Int) < (q : Int) := by omega
      have hkn : (k : Int) < (n : Int) := by omega
      clear hc hbl
      have hor := or_vlq k acc c (by omega) hacc
      have HOR := Lib.hid hor
      have hst : Hid (takeV k acc (xs.drop k) = if 128 ≤ c then takeV (k + 1) (acc + (c % 128).toNat * 128 ^ k) (xs.drop (k + 1)) else if 0 < k ∧ c = 0 then none else some (acc + c.toNat * 128 ^ k, xs.drop (k + 1))) := by
        unfold Hid
        rw [drop_at HC.out, takeV, if_neg (by omega)]
      have hp8 : Hid (128 ^ k ≤ 72057594037927936) := Nat.le_trans (Nat.pow_le_pow_right (by omega) (show k ≤ 8 by omega)) (by decide)
      have hacc2 : Hid (acc + (c % 128).toNat * 128 ^ k < 128 ^ (k + 1)) := by
        have h1 : (c % 128).toNat ≤ 127 := by omega
        have h2 := Nat.mul_le_mul_right (128 ^ k) h1
        unfold Hid
        rw [Nat.pow_succ]
        omega
      have HACC := Lib.hid hacc
      clear hor hacc
      by_cases hbig : 128 ≤ c
      · rw [if_pos hbig] at h128
        have h128' : ¬ bits BinOp.and IntKind.u8 c 128 = 0 := by rw [h128]; decide
        go_wp2_with fail
        go_roundg (q - (k + 1))
        case measure => omega
        case rel => exact ⟨k + 1, acc + (c % 128).toNat * 128 ^ k, by rw [HOR.out], by go_num, by omega, rfl, hacc2.out, by unfold Hid; rw [htk.out, hst.out, if_pos hbig], rfl⟩
      · rw [if_neg hbig] at h128
        have hval : Hid (takeV 0 0 xs = if 0 < k ∧ c = 0 then none else some (acc + c.toNat * 128 ^ k, xs.drop (k + 1))) := by
          unfold Hid; rw [htk.out, hst.out, if_neg hbig]
        have hcm : Hid ((c % 128).toNat = c.toNat) := by unfold Hid; omega
        by_cases hz : 0 < k ∧ c = 0
        · obtain ⟨hk0, rfl⟩ := hz
          have hk0' : (0 : Int) < (k : Int) := by omega
          go_wp2_with fail
          go_ret3
          exact ⟨Below.refl _ _, .inl ⟨by rw [hval.out, if_pos ⟨hk0, trivial⟩], rfl⟩⟩
        · by_cases hk0 : k = 0
          · have hk0' : ¬ (0 : Int) < (k : Int) := by omega
            have HK0 := Lib.hid hk0
            clear hk0
            by_cases hce : cap = k + 1
            · have hrd0 : RdB wr (some ⟨b, off, none⟩) (n - (k + 1)) (xs.drop (k + 1)) := ⟨by rw [List.length_drop, HL.out], fun i x hi => by
                have h1 := (List.getElem?_eq_some_iff.1 hi).1
                have h2 := HL.out
                rw [List.length_drop] at h1; omega⟩
              have HRD0 := Lib.hid hrd0
              clear hrd0
              have hce' : (cap : Int) = (k : Int) + 1 := by omega
              go_wp2_with fail
              refine (bcl_calls _ (n - (k + 1)) 0 (xs.drop (k + 1)) _ HRD0.out ⟨_, rfl⟩ (by omega)).mono ?_
              rintro e w2 ⟨g, cap2, rfl, hown2, hb2⟩
              go_wp2
              go_ret3
              refine ⟨hb2, .inr ⟨acc + (c % 128).toNat * 128 ^ k, xs.drop (k + 1), g, cap2, ?_, ?_, ?_, ?_⟩⟩
              · rw [hval.out, if_neg hz, hcm.out]
              · have h1 : (c % 128).toNat ≤ 127 := by omega
                have h2 := Nat.mul_le_mul_right (128 ^ k) h1
                have h3 := HACC.out
                have h4 := hp8.out
                omega
              · rw [HOR.out]
                have e : (xs.drop (k + 1)).length = n - (k + 1) := by rw [List.length_drop, HL.out]
                rw [e]; rfl
              · have e : (xs.drop (k + 1)).length = n - (k + 1) := by rw [List.length_drop, HL.out]
                rw [e]; exact hown2
            · have hce' : ¬ (cap : Int) = (k : Int) + 1 := by omega
              go_wp2_with fail
              refine (bcl_calls _ (n - (k + 1)) (cap - (k + 1)) (xs.drop (k + 1)) _ (rdb_drop HX.out (k + 1)) ⟨_, rfl⟩ (by omega)).mono ?_
              rintro e w2 ⟨g, cap2, rfl, hown2, hb2⟩
              go_wp2
              go_ret3
              refine ⟨hb2, .inr ⟨acc + (c % 128).toNat * 128 ^ k, xs.drop (k + 1), g, cap2, ?_, ?_, ?_, ?_⟩⟩
              · rw [hval.out, if_neg hz, hcm.out]
              · have h1 : (c % 128).toNat ≤ 127 := by omega
                have h2 := Nat.mul_le_mul_right (128 ^ k) h1
                have h3 := HACC.out
                have h4 := hp8.out
                omega
              · rw [HOR.out]
                have e : (xs.drop (k + 1)).length = n - (k + 1) := by rw [List.length_drop, HL.out]
                rw [e]; rfl
              · have e : (xs.drop (k + 1)).length = n - (k + 1) := by rw [List.length_drop, HL.out]
                rw [e]; exact hown2
          · have hc00 : ¬ c = 0 := fun e => hz ⟨by omega, e⟩
            have hk0' : (0 : Int) < (k : Int) := by omega
            by_cases hce : cap = k + 1
            · have hrd0 : RdB wr (some ⟨b, off, none⟩) (n - (k + 1)) (xs.drop (k + 1)) := ⟨by rw [List.length_drop, HL.out], fun i x hi => by
                have h1 := (List.getElem?_eq_some_iff.1 hi).1
                have h2 := HL.out
                rw [List.length_drop] at h1; omega⟩
              have HRD0 := Lib.hid hrd0
              clear hrd0
              have hce' : (cap : Int) = (k : Int) + 1 := by omega
              go_wp2_with fail
              refine (bcl_calls _ (n - (k + 1)) 0 (xs.drop (k + 1)) _ HRD0.out ⟨_, rfl⟩ (by omega)).mono ?_
              rintro e w2 ⟨g, cap2, rfl, hown2, hb2⟩
              go_wp2
              go_ret3
              refine ⟨hb2, .inr ⟨acc + (c % 128).toNat * 128 ^ k, xs.drop (k + 1), g, cap2, ?_, ?_, ?_, ?_⟩⟩
              · rw [hval.out, if_neg hz, hcm.out]
              · have h1 : (c % 128).toNat ≤ 127 := by omega
                have h2 := Nat.mul_le_mul_right (128 ^ k) h1
                have h3 := HACC.out
                have h4 := hp8.out
                omega
              · rw [HOR.out]
                have e : (xs.drop (k + 1)).length = n - (k + 1) := by rw [List.length_drop, HL.out]
                rw [e]; rfl
              · have e : (xs.drop (k + 1)).length = n - (k + 1) := by rw [List.length_drop, HL.out]
                rw [e]; exact hown2
            · have hce' : ¬ (cap : Int) = (k : Int) + 1 := by omega
              go_wp2_with fail
              refine (bcl_calls _ (n - (k + 1)) (cap - (k + 1)) (xs.drop (k + 1)) _ (rdb_drop HX.out (k + 1)) ⟨_, rfl⟩ (by omega)).mono ?_
              rintro e w2 ⟨g, cap2, rfl, hown2, hb2⟩
              go_wp2
              go_ret3
              refine ⟨hb2, .inr ⟨acc + (c % 128).toNat * 128 ^ k, xs.drop (k + 1), g, cap2, ?_, ?_, ?_, ?_⟩⟩
              · rw [hval.out, if_neg hz, hcm.out]
              · have h1 : (c % 128).toNat ≤ 127 := by omega
                have h2 := Nat.mul_le_mul_right (128 ^ k) h1
                have h3 := HACC.out
                have h4 := hp8.out
                omega
              · rw [HOR.out]
                have e : (xs.drop (k + 1)).length = n - (k + 1) := by rw [List.length_drop, HL.out]
                rw [e]; rfl
              · have e : (xs.drop (k + 1)).length = n - (k + 1) := by rw [List.length_drop, HL.out]
                rw [e]; exact hown2
    · obtain rfl : k = q := by omega
      have hnone : takeV 0 0 xs = none := by
        rw [htk.out]
        cases hd : xs.drop k with
        | nil => rfl
        | cons c r =>
          have h1 := congrArg List.length hd
          rw [List.length_drop, List.length_cons] at h1
          have h2 := HQ.out
          have h3 := HL.out
          rw [takeV, if_pos (by omega)]
      have HN := Lib.hid hnone
      clear hnone
      go_wp2
      go_ret3
      exact ⟨Below.refl _ _, .inl ⟨HN.out, rfl⟩⟩
/-- Take of no slice at all. -/
theorem take_none (w : World) : Calls Try.prog 31 #[.slice none 0 0] w (TakeOut [] w) := by
  go_enter Try.func31, Try.ntmps31
  go_wp2
  refine wp_loop_rounds 1 ?_
  rw [rounds_succ]
  go_wp2
  go_ret3
  exact ⟨Below.refl _ _, .inl ⟨rfl, rfl⟩⟩
end Go.Proofs.Ytideokbaenkijaa
