/-
  joistref01.Bytes: the same bytes as the program's.
-/
import Derived.Test.YtonghiaocpenaaaGreatDoorQEight
import Derived.Test.YtonghiaocpenaaaGreatDoorJRRight
namespace Go.Proofs.YtonghiaocpenaaaGreatDoor
open Go.RowKit

set_option maxHeartbeats 2000000 in
set_option maxRecDepth 20000 in
theorem qfloat_calls (n : Int) (w : World) (hn : isInt n) (hok : floatOk n = true) : Calls Tryz.prog 52 #[.int .i64 n] w (OutB (eightL (rankN (n % 18446744073709551616))) w) := by
  have hr := Lib.hid (r1right_calls n w)
  rw [hok] at hr
  have hmk : (Instr.makeSlice 29 (.int .i64 8) (.int .i64 8)).run Tryz.prog w = .ok (.slice (some ⟨w.heap.size, 0, none⟩) 8 8) (w.alloc (.cells #[.int .u8 0, .int .u8 0, .int .u8 0, .int .u8 0, .int .u8 0, .int .u8 0, .int .u8 0, .int .u8 0] 5)) := by kernel_rfl
  go_enter Tryz.func52, Tryz.ntmps52
  go_wp2_with fail
  refine hr.out.mono ?_
  rintro e w1 ⟨rfl, rfl⟩
  have hn' := hn
  unfold isInt at hn'
  have ew : IntKind.u64.wrap n = n % 18446744073709551616 := IntKind.wrap_u64 n
  obtain ⟨u, hu⟩ : ∃ u, u = rankN (n % 18446744073709551616) := ⟨_, rfl⟩
  have hur := rank_range (n % 18446744073709551616) (by omega) (by omega)
  have HU := Lib.hid hu
  rw [← hu] at hur
  obtain ⟨h0, h1⟩ := hur
  by_cases hneg : n < 0
  · have hv : bits .xor .u64 IntKind.u64.max (IntKind.u64.wrap n) = u := by
      rw [ew, xor_max _ (by omega) (by omega), hu, rankN, if_pos (by omega)]
    clear hu ew hn' hn
    go_wp2
    clear hv
    go_loopw [3, 5] (fun uu i wr => ∃ k : Nat, k ≤ 8 ∧ uu = .int .u64 (uE u k) ∧ i = .int .i64 (7 - (k : Int)) ∧ wr = w1.alloc (.cells (stE u k) 5)) (fun _ i _ => (intOf i + 1).toNat)
    case atStart => exact ⟨0, by omega, rfl, rfl, rfl⟩
    case round =>
      obtain ⟨k, hk, rfl, rfl, rfl⟩ := hrel
      clear hmk
      by_cases hlt : k < 8
      · rcases (by omega : k = 0 ∨ k = 1 ∨ k = 2 ∨ k = 3 ∨ k = 4 ∨ k = 5 ∨ k = 6 ∨ k = 7) with rfl | rfl | rfl | rfl | rfl | rfl | rfl | rfl
        · have e1 : stE u 0 = #[.int .u8 0, .int .u8 0, .int .u8 0, .int .u8 0, .int .u8 0, .int .u8 0, .int .u8 0, .int .u8 0] := rfl
          have e2 : uE u 0 = u := rfl
          rw [e1, e2]
          have hw : IntKind.u8.wrap (u % 256) = u % 256 := by rw [IntKind.wrap_u8]; omega
          have hp : 0 ≤ u := by omega
          clear e1 e2
          go_wp2
          exact ⟨⟨1, by omega, rfl, by go_num, rfl⟩, by simp [intOf]⟩
        · have e1 : stE u 1 = #[.int .u8 0, .int .u8 0, .int .u8 0, .int .u8 0, .int .u8 0, .int .u8 0, .int .u8 0, .int .u8 (u % 256)] := rfl
          have e2 : uE u 1 = (u / 256) := rfl
          rw [e1, e2]
          have hw : IntKind.u8.wrap ((u / 256) % 256) = (u / 256) % 256 := by rw [IntKind.wrap_u8]; omega
          have hp : 0 ≤ (u / 256) := by omega
          clear e1 e2
          go_wp2
          exact ⟨⟨2, by omega, rfl, by go_num, rfl⟩, by simp [intOf]⟩
        · have e1 : stE u 2 = #[.int .u8 0, .int .u8 0, .int .u8 0, .int .u8 0, .int .u8 0, .int .u8 0, .int .u8 ((u / 256) % 256), .int .u8 (u % 256)] := rfl
          have e2 : uE u 2 = ((u / 256) / 256) := rfl
          rw [e1, e2]
          have hw : IntKind.u8.wrap (((u / 256) / 256) % 256) = ((u / 256) / 256) % 256 := by rw [IntKind.wrap_u8]; omega
          have hp : 0 ≤ ((u / 256) / 256) := by omega
          clear e1 e2
          go_wp2
          exact ⟨⟨3, by omega, rfl, by go_num, rfl⟩, by simp [intOf]⟩
        · have e1 : stE u 3 = #[.int .u8 0, .int .u8 0, .int .u8 0, .int .u8 0, .int .u8 0, .int .u8 (((u / 256) / 256) % 256), .int .u8 ((u / 256) % 256), .int .u8 (u % 256)] := rfl
          have e2 : uE u 3 = (((u / 256) / 256) / 256) := rfl
          rw [e1, e2]
          have hw : IntKind.u8.wrap ((((u / 256) / 256) / 256) % 256) = (((u / 256) / 256) / 256) % 256 := by rw [IntKind.wrap_u8]; omega
          have hp : 0 ≤ (((u / 256) / 256) / 256) := by omega
          clear e1 e2
          go_wp2
          exact ⟨⟨4, by omega, rfl, by go_num, rfl⟩, by simp [intOf]⟩
        · have e1 : stE u 4 = #[.int .u8 0, .int .u8 0, .int .u8 0, .int .u8 0, .int .u8 ((((u / 256) / 256) / 256) % 256), .int .u8 (((u / 256) / 256) % 256), .int .u8 ((u / 256) % 256), .int .u8 (u % 256)] := rfl
          have e2 : uE u 4 = ((((u / 256) / 256) / 256) / 256) := rfl
          rw [e1, e2]
          have hw : IntKind.u8.wrap (((((u / 256) / 256) / 256) / 256) % 256) = ((((u / 256) / 256) / 256) / 256) % 256 := by rw [IntKind.wrap_u8]; omega
          have hp : 0 ≤ ((((u / 256) / 256) / 256) / 256) := by omega
          clear e1 e2
          go_wp2
          exact ⟨⟨5, by omega, rfl, by go_num, rfl⟩, by simp [intOf]⟩
        · have e1 : stE u 5 = #[.int .u8 0, .int .u8 0, .int .u8 0, .int .u8 (((((u / 256) / 256) / 256) / 256) % 256), .int .u8 ((((u / 256) / 256) / 256) % 256), .int .u8 (((u / 256) / 256) % 256), .int .u8 ((u / 256) % 256), .int .u8 (u % 256)] := rfl
          have e2 : uE u 5 = (((((u / 256) / 256) / 256) / 256) / 256) := rfl
          rw [e1, e2]
          have hw : IntKind.u8.wrap ((((((u / 256) / 256) / 256) / 256) / 256) % 256) = (((((u / 256) / 256) / 256) / 256) / 256) % 256 := by rw [IntKind.wrap_u8]; omega
          have hp : 0 ≤ (((((u / 256) / 256) / 256) / 256) / 256) := by omega
          clear e1 e2
          go_wp2
          exact ⟨⟨6, by omega, rfl, by go_num, rfl⟩, by simp [intOf]⟩
        · have e1 : stE u 6 = #[.int .u8 0, .int .u8 0, .int .u8 ((((((u / 256) / 256) / 256) / 256) / 256) % 256), .int .u8 (((((u / 256) / 256) / 256) / 256) % 256), .int .u8 ((((u / 256) / 256) / 256) % 256), .int .u8 (((u / 256) / 256) % 256), .int .u8 ((u / 256) % 256), .int .u8 (u % 256)] := rfl
          have e2 : uE u 6 = ((((((u / 256) / 256) / 256) / 256) / 256) / 256) := rfl
          rw [e1, e2]
          have hw : IntKind.u8.wrap (((((((u / 256) / 256) / 256) / 256) / 256) / 256) % 256) = ((((((u / 256) / 256) / 256) / 256) / 256) / 256) % 256 := by rw [IntKind.wrap_u8]; omega
          have hp : 0 ≤ ((((((u / 256) / 256) / 256) / 256) / 256) / 256) := by omega
          clear e1 e2
          go_wp2
          exact ⟨⟨7, by omega, rfl, by go_num, rfl⟩, by simp [intOf]⟩
        · have e1 : stE u 7 = #[.int .u8 0, .int .u8 (((((((u / 256) / 256) / 256) / 256) / 256) / 256) % 256), .int .u8 ((((((u / 256) / 256) / 256) / 256) / 256) % 256), .int .u8 (((((u / 256) / 256) / 256) / 256) % 256), .int .u8 ((((u / 256) / 256) / 256) % 256), .int .u8 (((u / 256) / 256) % 256), .int .u8 ((u / 256) % 256), .int .u8 (u % 256)] := rfl
          have e2 : uE u 7 = (((((((u / 256) / 256) / 256) / 256) / 256) / 256) / 256) := rfl
          rw [e1, e2]
          have hw : IntKind.u8.wrap ((((((((u / 256) / 256) / 256) / 256) / 256) / 256) / 256) % 256) = (((((((u / 256) / 256) / 256) / 256) / 256) / 256) / 256) % 256 := by rw [IntKind.wrap_u8]; omega
          have hp : 0 ≤ (((((((u / 256) / 256) / 256) / 256) / 256) / 256) / 256) := by omega
          clear e1 e2
          go_wp2
          exact ⟨⟨8, by omega, rfl, by go_num, rfl⟩, by simp [intOf]⟩
      · obtain rfl : k = 8 := by omega
        go_wp2
        go_ret
        refine ⟨_, 8, 8, rfl, ?_, (Below.refl _ _).alloc (Nat.le_refl _) _⟩
        rw [← HU.out, eight_quo u h0 h1]
        exact own_bytes (xs := [(((((((u / 256) / 256) / 256) / 256) / 256) / 256) / 256) % 256, ((((((u / 256) / 256) / 256) / 256) / 256) / 256) % 256, (((((u / 256) / 256) / 256) / 256) / 256) % 256, ((((u / 256) / 256) / 256) / 256) % 256, (((u / 256) / 256) / 256) % 256, ((u / 256) / 256) % 256, (u / 256) % 256, u % 256]) rfl (Nat.le_refl _) (by simp)
  · have hv : IntKind.u64.wrap (IntKind.u64.wrap n + 9223372036854775808) = u := by
      rw [ew, IntKind.wrap_u64, hu, rankN, if_neg (by omega)]; omega
    clear hu ew hn' hn
    go_wp2
    clear hv
    go_loopw [3, 5] (fun uu i wr => ∃ k : Nat, k ≤ 8 ∧ uu = .int .u64 (uE u k) ∧ i = .int .i64 (7 - (k : Int)) ∧ wr = w1.alloc (.cells (stE u k) 5)) (fun _ i _ => (intOf i + 1).toNat)
    case atStart => exact ⟨0, by omega, rfl, rfl, rfl⟩
    case round =>
      obtain ⟨k, hk, rfl, rfl, rfl⟩ := hrel
      clear hmk
      by_cases hlt : k < 8
      · rcases (by omega : k = 0 ∨ k = 1 ∨ k = 2 ∨ k = 3 ∨ k = 4 ∨ k = 5 ∨ k = 6 ∨ k = 7) with rfl | rfl | rfl | rfl | rfl | rfl | rfl | rfl
        · have e1 : stE u 0 = #[.int .u8 0, .int .u8 0, .int .u8 0, .int .u8 0, .int .u8 0, .int .u8 0, .int .u8 0, .int .u8 0] := rfl
          have e2 : uE u 0 = u := rfl
          rw [e1, e2]
          have hw : IntKind.u8.wrap (u % 256) = u % 256 := by rw [IntKind.wrap_u8]; omega
          have hp : 0 ≤ u := by omega
          clear e1 e2
          go_wp2
          exact ⟨⟨1, by omega, rfl, by go_num, rfl⟩, by simp [intOf]⟩
        · have e1 : stE u 1 = #[.int .u8 0, .int .u8 0, .int .u8 0, .int .u8 0, .int .u8 0, .int .u8 0, .int .u8 0, .int .u8 (u % 256)] := rfl
          have e2 : uE u 1 = (u / 256) := rfl
          rw [e1, e2]
          have hw : IntKind.u8.wrap ((u / 256) % 256) = (u / 256) % 256 := by rw [IntKind.wrap_u8]; omega
          have hp : 0 ≤ (u / 256) := by omega
          clear e1 e2
          go_wp2
          exact ⟨⟨2, by omega, rfl, by go_num, rfl⟩, by simp [intOf]⟩
        · have e1 : stE u 2 = #[.int .u8 0, .int .u8 0, .int .u8 0, .int .u8 0, .int .u8 0, .int .u8 0, .int .u8 ((u / 256) % 256), .int .u8 (u % 256)] := rfl
          have e2 : uE u 2 = ((u / 256) / 256) := rfl
          rw [e1, e2]
          have hw : IntKind.u8.wrap (((u / 256) / 256) % 256) = ((u / 256) / 256) % 256 := by rw [IntKind.wrap_u8]; omega
          have hp : 0 ≤ ((u / 256) / 256) := by omega
          clear e1 e2
          go_wp2
          exact ⟨⟨3, by omega, rfl, by go_num, rfl⟩, by simp [intOf]⟩
        · have e1 : stE u 3 = #[.int .u8 0, .int .u8 0, .int .u8 0, .int .u8 0, .int .u8 0, .int .u8 (((u / 256) / 256) % 256), .int .u8 ((u / 256) % 256), .int .u8 (u % 256)] := rfl
          have e2 : uE u 3 = (((u / 256) / 256) / 256) := rfl
          rw [e1, e2]
          have hw : IntKind.u8.wrap ((((u / 256) / 256) / 256) % 256) = (((u / 256) / 256) / 256) % 256 := by rw [IntKind.wrap_u8]; omega
          have hp : 0 ≤ (((u / 256) / 256) / 256) := by omega
          clear e1 e2
          go_wp2
          exact ⟨⟨4, by omega, rfl, by go_num, rfl⟩, by simp [intOf]⟩
        · have e1 : stE u 4 = #[.int .u8 0, .int .u8 0, .int .u8 0, .int .u8 0, .int .u8 ((((u / 256) / 256) / 256) % 256), .int .u8 (((u / 256) / 256) % 256), .int .u8 ((u / 256) % 256), .int .u8 (u % 256)] := rfl
          have e2 : uE u 4 = ((((u / 256) / 256) / 256) / 256) := rfl
          rw [e1, e2]
          have hw : IntKind.u8.wrap (((((u / 256) / 256) / 256) / 256) % 256) = ((((u / 256) / 256) / 256) / 256) % 256 := by rw [IntKind.wrap_u8]; omega
          have hp : 0 ≤ ((((u / 256) / 256) / 256) / 256) := by omega
          clear e1 e2
          go_wp2
          exact ⟨⟨5, by omega, rfl, by go_num, rfl⟩, by simp [intOf]⟩
        · have e1 : stE u 5 = #[.int .u8 0, .int .u8 0, .int .u8 0, .int .u8 (((((u / 256) / 256) / 256) / 256) % 256), .int .u8 ((((u / 256) / 256) / 256) % 256), .int .u8 (((u / 256) / 256) % 256), .int .u8 ((u / 256) % 256), .int .u8 (u % 256)] := rfl
          have e2 : uE u 5 = (((((u / 256) / 256) / 256) / 256) / 256) := rfl
          rw [e1, e2]
          have hw : IntKind.u8.wrap ((((((u / 256) / 256) / 256) / 256) / 256) % 256) = (((((u / 256) / 256) / 256) / 256) / 256) % 256 := by rw [IntKind.wrap_u8]; omega
          have hp : 0 ≤ (((((u / 256) / 256) / 256) / 256) / 256) := by omega
          clear e1 e2
          go_wp2
          exact ⟨⟨6, by omega, rfl, by go_num, rfl⟩, by simp [intOf]⟩
        · have e1 : stE u 6 = #[.int .u8 0, .int .u8 0, .int .u8 ((((((u / 256) / 256) / 256) / 256) / 256) % 256), .int .u8 (((((u / 256) / 256) / 256) / 256) % 256), .int .u8 ((((u / 256) / 256) / 256) % 256), .int .u8 (((u / 256) / 256) % 256), .int .u8 ((u / 256) % 256), .int .u8 (u % 256)] := rfl
          have e2 : uE u 6 = ((((((u / 256) / 256) / 256) / 256) / 256) / 256) := rfl
          rw [e1, e2]
          have hw : IntKind.u8.wrap (((((((u / 256) / 256) / 256) / 256) / 256) / 256) % 256) = ((((((u / 256) / 256) / 256) / 256) / 256) / 256) % 256 := by rw [IntKind.wrap_u8]; omega
          have hp : 0 ≤ ((((((u / 256) / 256) / 256) / 256) / 256) / 256) := by omega
          clear e1 e2
          go_wp2
          exact ⟨⟨7, by omega, rfl, by go_num, rfl⟩, by simp [intOf]⟩
        · have e1 : stE u 7 = #[.int .u8 0, .int .u8 (((((((u / 256) / 256) / 256) / 256) / 256) / 256) % 256), .int .u8 ((((((u / 256) / 256) / 256) / 256) / 256) % 256), .int .u8 (((((u / 256) / 256) / 256) / 256) % 256), .int .u8 ((((u / 256) / 256) / 256) % 256), .int .u8 (((u / 256) / 256) % 256), .int .u8 ((u / 256) % 256), .int .u8 (u % 256)] := rfl
          have e2 : uE u 7 = (((((((u / 256) / 256) / 256) / 256) / 256) / 256) / 256) := rfl
          rw [e1, e2]
          have hw : IntKind.u8.wrap ((((((((u / 256) / 256) / 256) / 256) / 256) / 256) / 256) % 256) = (((((((u / 256) / 256) / 256) / 256) / 256) / 256) / 256) % 256 := by rw [IntKind.wrap_u8]; omega
          have hp : 0 ≤ (((((((u / 256) / 256) / 256) / 256) / 256) / 256) / 256) := by omega
          clear e1 e2
          go_wp2
          exact ⟨⟨8, by omega, rfl, by go_num, rfl⟩, by simp [intOf]⟩
      · obtain rfl : k = 8 := by omega
        go_wp2
        go_ret
        refine ⟨_, 8, 8, rfl, ?_, (Below.refl _ _).alloc (Nat.le_refl _) _⟩
        rw [← HU.out, eight_quo u h0 h1]
        exact own_bytes (xs := [(((((((u / 256) / 256) / 256) / 256) / 256) / 256) / 256) % 256, ((((((u / 256) / 256) / 256) / 256) / 256) / 256) % 256, (((((u / 256) / 256) / 256) / 256) / 256) % 256, ((((u / 256) / 256) / 256) / 256) % 256, (((u / 256) / 256) / 256) % 256, ((u / 256) / 256) % 256, (u / 256) % 256, u % 256]) rfl (Nat.le_refl _) (by simp)
end Go.Proofs.YtonghiaocpenaaaGreatDoor
