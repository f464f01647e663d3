/-
  joistref02.Eight: the same bytes as the program's.
-/
import Derived.Test.YtonghiaocpenaaaGreatDoorQEsc
namespace Go.Proofs.YtonghiaocpenaaaGreatDoor
open Go.RowKit

/-- The row behind k rounds. -/
def stE (u : Int) : Nat → Array Value
  | 0 => #[.int .u8 0, .int .u8 0, .int .u8 0, .int .u8 0, .int .u8 0, .int .u8 0, .int .u8 0, .int .u8 0]
  | 1 => #[.int .u8 0, .int .u8 0, .int .u8 0, .int .u8 0, .int .u8 0, .int .u8 0, .int .u8 0, .int .u8 (u % 256)]
  | 2 => #[.int .u8 0, .int .u8 0, .int .u8 0, .int .u8 0, .int .u8 0, .int .u8 0, .int .u8 ((u / 256) % 256), .int .u8 (u % 256)]
  | 3 => #[.int .u8 0, .int .u8 0, .int .u8 0, .int .u8 0, .int .u8 0, .int .u8 (((u / 256) / 256) % 256), .int .u8 ((u / 256) % 256), .int .u8 (u % 256)]
  | 4 => #[.int .u8 0, .int .u8 0, .int .u8 0, .int .u8 0, .int .u8 ((((u / 256) / 256) / 256) % 256), .int .u8 (((u / 256) / 256) % 256), .int .u8 ((u / 256) % 256), .int .u8 (u % 256)]
  | 5 => #[.int .u8 0, .int .u8 0, .int .u8 0, .int .u8 (((((u / 256) / 256) / 256) / 256) % 256), .int .u8 ((((u / 256) / 256) / 256) % 256), .int .u8 (((u / 256) / 256) % 256), .int .u8 ((u / 256) % 256), .int .u8 (u % 256)]
  | 6 => #[.int .u8 0, .int .u8 0, .int .u8 ((((((u / 256) / 256) / 256) / 256) / 256) % 256), .int .u8 (((((u / 256) / 256) / 256) / 256) % 256), .int .u8 ((((u / 256) / 256) / 256) % 256), .int .u8 (((u / 256) / 256) % 256), .int .u8 ((u / 256) % 256), .int .u8 (u % 256)]
  | 7 => #[.int .u8 0, .int .u8 (((((((u / 256) / 256) / 256) / 256) / 256) / 256) % 256), .int .u8 ((((((u / 256) / 256) / 256) / 256) / 256) % 256), .int .u8 (((((u / 256) / 256) / 256) / 256) % 256), .int .u8 ((((u / 256) / 256) / 256) % 256), .int .u8 (((u / 256) / 256) % 256), .int .u8 ((u / 256) % 256), .int .u8 (u % 256)]
  | _ => #[.int .u8 ((((((((u / 256) / 256) / 256) / 256) / 256) / 256) / 256) % 256), .int .u8 (((((((u / 256) / 256) / 256) / 256) / 256) / 256) % 256), .int .u8 ((((((u / 256) / 256) / 256) / 256) / 256) % 256), .int .u8 (((((u / 256) / 256) / 256) / 256) % 256), .int .u8 ((((u / 256) / 256) / 256) % 256), .int .u8 (((u / 256) / 256) % 256), .int .u8 ((u / 256) % 256), .int .u8 (u % 256)]
def uE (u : Int) : Nat → Int
  | 0 => u
  | k + 1 => uE u k / 256
theorem eight_quo (u : Int) (h0 : 0 ≤ u) (h1 : u < 18446744073709551616) : eightL u = [(((((((u / 256) / 256) / 256) / 256) / 256) / 256) / 256) % 256, ((((((u / 256) / 256) / 256) / 256) / 256) / 256) % 256, (((((u / 256) / 256) / 256) / 256) / 256) % 256, ((((u / 256) / 256) / 256) / 256) % 256, (((u / 256) / 256) / 256) % 256, ((u / 256) / 256) % 256, (u / 256) % 256, u % 256] := by
  unfold eightL
  congr 1
  · omega
  · congr 1
    · omega
    · congr 1
      · omega
      · congr 1
        · omega
        · congr 1
          · omega
          · congr 1
            · omega


set_option maxHeartbeats 2000000 in
set_option maxRecDepth 20000 in
theorem qeight_calls (u : Int) (w : World) (h0 : 0 ≤ u) (h1 : u < 18446744073709551616) : Calls Tryz.prog 30 #[.int .u64 u] w (OutB (eightL u) w) := by
  have hmk : (Instr.makeSlice 29 (.int .i64 8) (.int .i64 8)).run Tryz.prog w = .ok (.slice (some ⟨w.heap.size, 0, none⟩) 8 8) (w.alloc (.cells #[.int .u8 0, .int .u8 0, .int .u8 0, .int .u8 0, .int .u8 0, .int .u8 0, .int .u8 0, .int .u8 0] 5)) := by kernel_rfl
  go_enter Tryz.func30, Tryz.ntmps30
  go_wp2
  go_loopw [0, 4] (fun uu i wr => ∃ k : Nat, k ≤ 8 ∧ uu = .int .u64 (uE u k) ∧ i = .int .i64 (7 - (k : Int)) ∧ wr = w.alloc (.cells (stE u k) 5)) (fun _ i _ => (intOf i + 1).toNat)
  case atStart => exact ⟨0, by omega, rfl, rfl, rfl⟩
  case round =>
    obtain ⟨k, hk, rfl, rfl, rfl⟩ := hrel
    clear hmk
    by_cases hlt : k < 8
    · rcases (by omega : k = 0 ∨ k = 1 ∨ k = 2 ∨ k = 3 ∨ k = 4 ∨ k = 5 ∨ k = 6 ∨ k = 7) with rfl | rfl | rfl | rfl | rfl | rfl | rfl | rfl
      · have e1 : stE u 0 = #[.int .u8 0, .int .u8 0, .int .u8 0, .int .u8 0, .int .u8 0, .int .u8 0, .int .u8 0, .int .u8 0] := rfl
        have e2 : uE u 0 = u := rfl
        rw [e1, e2]
        have hw : IntKind.u8.wrap (u % 256) = u % 256 := by rw [IntKind.wrap_u8]; omega
        have hp : 0 ≤ u := by omega
        clear e1 e2
        go_wp2
        exact ⟨⟨1, by omega, rfl, by go_num, rfl⟩, by simp [intOf]⟩
      · have e1 : stE u 1 = #[.int .u8 0, .int .u8 0, .int .u8 0, .int .u8 0, .int .u8 0, .int .u8 0, .int .u8 0, .int .u8 (u % 256)] := rfl
        have e2 : uE u 1 = (u / 256) := rfl
        rw [e1, e2]
        have hw : IntKind.u8.wrap ((u / 256) % 256) = (u / 256) % 256 := by rw [IntKind.wrap_u8]; omega
        have hp : 0 ≤ (u / 256) := by omega
        clear e1 e2
        go_wp2
        exact ⟨⟨2, by omega, rfl, by go_num, rfl⟩, by simp [intOf]⟩
      · have e1 : stE u 2 = #[.int .u8 0, .int .u8 0, .int .u8 0, .int .u8 0, .int .u8 0, .int .u8 0, .int .u8 ((u / 256) % 256), .int .u8 (u % 256)] := rfl
        have e2 : uE u 2 = ((u / 256) / 256) := rfl
        rw [e1, e2]
        have hw : IntKind.u8.wrap (((u / 256) / 256) % 256) = ((u / 256) / 256) % 256 := by rw [IntKind.wrap_u8]; omega
        have hp : 0 ≤ ((u / 256) / 256) := by omega
        clear e1 e2
        go_wp2
        exact ⟨⟨3, by omega, rfl, by go_num, rfl⟩, by simp [intOf]⟩
      · have e1 : stE u 3 = #[.int .u8 0, .int .u8 0, .int .u8 0, .int .u8 0, .int .u8 0, .int .u8 (((u / 256) / 256) % 256), .int .u8 ((u / 256) % 256), .int .u8 (u % 256)] := rfl
        have e2 : uE u 3 = (((u / 256) / 256) / 256) := rfl
        rw [e1, e2]
        have hw : IntKind.u8.wrap ((((u / 256) / 256) / 256) % 256) = (((u / 256) / 256) / 256) % 256 := by rw [IntKind.wrap_u8]; omega
        have hp : 0 ≤ (((u / 256) / 256) / 256) := by omega
        clear e1 e2
        go_wp2
        exact ⟨⟨4, by omega, rfl, by go_num, rfl⟩, by simp [intOf]⟩
      · have e1 : stE u 4 = #[.int .u8 0, .int .u8 0, .int .u8 0, .int .u8 0, .int .u8 ((((u / 256) / 256) / 256) % 256), .int .u8 (((u / 256) / 256) % 256), .int .u8 ((u / 256) % 256), .int .u8 (u % 256)] := rfl
        have e2 : uE u 4 = ((((u / 256) / 256) / 256) / 256) := rfl
        rw [e1, e2]
        have hw : IntKind.u8.wrap (((((u / 256) / 256) / 256) / 256) % 256) = ((((u / 256) / 256) / 256) / 256) % 256 := by rw [IntKind.wrap_u8]; omega
        have hp : 0 ≤ ((((u / 256) / 256) / 256) / 256) := by omega
        clear e1 e2
        go_wp2
        exact ⟨⟨5, by omega, rfl, by go_num, rfl⟩, by simp [intOf]⟩
      · have e1 : stE u 5 = #[.int .u8 0, .int .u8 0, .int .u8 0, .int .u8 (((((u / 256) / 256) / 256) / 256) % 256), .int .u8 ((((u / 256) / 256) / 256) % 256), .int .u8 (((u / 256) / 256) % 256), .int .u8 ((u / 256) % 256), .int .u8 (u % 256)] := rfl
        have e2 : uE u 5 = (((((u / 256) / 256) / 256) / 256) / 256) := rfl
        rw [e1, e2]
        have hw : IntKind.u8.wrap ((((((u / 256) / 256) / 256) / 256) / 256) % 256) = (((((u / 256) / 256) / 256) / 256) / 256) % 256 := by rw [IntKind.wrap_u8]; omega
        have hp : 0 ≤ (((((u / 256) / 256) / 256) / 256) / 256) := by omega
        clear e1 e2
        go_wp2
        exact ⟨⟨6, by omega, rfl, by go_num, rfl⟩, by simp [intOf]⟩
      · have e1 : stE u 6 = #[.int .u8 0, .int .u8 0, .int .u8 ((((((u / 256) / 256) / 256) / 256) / 256) % 256), .int .u8 (((((u / 256) / 256) / 256) / 256) % 256), .int .u8 ((((u / 256) / 256) / 256) % 256), .int .u8 (((u / 256) / 256) % 256), .int .u8 ((u / 256) % 256), .int .u8 (u % 256)] := rfl
        have e2 : uE u 6 = ((((((u / 256) / 256) / 256) / 256) / 256) / 256) := rfl
        rw [e1, e2]
        have hw : IntKind.u8.wrap (((((((u / 256) / 256) / 256) / 256) / 256) / 256) % 256) = ((((((u / 256) / 256) / 256) / 256) / 256) / 256) % 256 := by rw [IntKind.wrap_u8]; omega
        have hp : 0 ≤ ((((((u / 256) / 256) / 256) / 256) / 256) / 256) := by omega
        clear e1 e2
        go_wp2
        exact ⟨⟨7, by omega, rfl, by go_num, rfl⟩, by simp [intOf]⟩
      · have e1 : stE u 7 = #[.int .u8 0, .int .u8 (((((((u / 256) / 256) / 256) / 256) / 256) / 256) % 256), .int .u8 ((((((u / 256) / 256) / 256) / 256) / 256) % 256), .int .u8 (((((u / 256) / 256) / 256) / 256) % 256), .int .u8 ((((u / 256) / 256) / 256) % 256), .int .u8 (((u / 256) / 256) % 256), .int .u8 ((u / 256) % 256), .int .u8 (u % 256)] := rfl
        have e2 : uE u 7 = (((((((u / 256) / 256) / 256) / 256) / 256) / 256) / 256) := rfl
        rw [e1, e2]
        have hw : IntKind.u8.wrap ((((((((u / 256) / 256) / 256) / 256) / 256) / 256) / 256) % 256) = (((((((u / 256) / 256) / 256) / 256) / 256) / 256) / 256) % 256 := by rw [IntKind.wrap_u8]; omega
        have hp : 0 ≤ (((((((u / 256) / 256) / 256) / 256) / 256) / 256) / 256) := by omega
        clear e1 e2
        go_wp2
        exact ⟨⟨8, by omega, rfl, by go_num, rfl⟩, by simp [intOf]⟩
    · obtain rfl : k = 8 := by omega
      go_wp2
      go_ret
      refine ⟨_, 8, 8, rfl, ?_, (Below.refl _ _).alloc (Nat.le_refl _) _⟩
      rw [eight_quo u h0 h1]
      exact own_bytes (xs := [(((((((u / 256) / 256) / 256) / 256) / 256) / 256) / 256) % 256, ((((((u / 256) / 256) / 256) / 256) / 256) / 256) % 256, (((((u / 256) / 256) / 256) / 256) / 256) % 256, ((((u / 256) / 256) / 256) / 256) % 256, (((u / 256) / 256) / 256) % 256, ((u / 256) / 256) % 256, (u / 256) % 256, u % 256]) rfl (Nat.le_refl _) (by simp)
end Go.Proofs.YtonghiaocpenaaaGreatDoor
