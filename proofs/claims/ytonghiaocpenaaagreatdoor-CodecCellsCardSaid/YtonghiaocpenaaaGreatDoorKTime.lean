/-
  The writer's time.
-/
import Derived.Test.YtonghiaocpenaaaGreatDoorKText
namespace Go.Proofs.YtonghiaocpenaaaGreatDoor
open Go.RowKit

theorem Wr.later {B b : Nat} {xs : List Int} {w : World} (h : Wr B b xs w) (X : World) : Wr B b xs (w.later X) := h.old (later_below w X)
theorem Marked.later {b : Nat} (w X : World) : Marked b w (w.later X) := Marked.below (later_below w X)

theorem take_snoc {xs l : List Int} {k : Nat} {x : Int} (h : l[k]? = some x) : xs ++ l.take k ++ [x] = xs ++ l.take (k + 1) := by
  rw [List.append_assoc, List.take_add_one, h]; rfl

set_option maxHeartbeats 4000000 in
set_option maxRecDepth 20000 in
theorem time_calls (B b : Nat) (xs : List Int) (t : Int) (w : World) (h : Wr B b xs w) (hBw : B ≤ w.heap.size) (hlim : xs.length ≤ 100000) (ht0 : 0 ≤ t) (ht1 : t < 9223372036854775808) :
    Calls Tryz.prog 49 #[.pointer (some ⟨b, 0, none⟩), .int .i64 t] w fun e w' => e = .returned (.tuple #[]) ∧ Wr B b (xs ++ eightL (9223372036854775807 - t)) w' ∧ Below B w w' ∧ Lib.OthersKept 5 (some b) w w' := by
  have hb0 := Below.refl B w
  have hm0 := Marked.refl b w
  have h0 : Wr B b (xs ++ (eightL (9223372036854775807 - t)).take 0) w := by rw [List.take_zero, List.append_nil]; exact h
  have H0 := Lib.hid h0
  have HB0 := Lib.hid hb0
  have HM0 := Lib.hid hm0
  clear h0 h hb0 hm0
  obtain ⟨u, hu⟩ : ∃ u : Int, u = 9223372036854775807 - t := ⟨_, rfl⟩
  have hu0 : 0 ≤ u := by omega
  have hu1 : u < 18446744073709551616 := by omega
  have hw1 : IntKind.i64.wrap (9223372036854775807 - t) = u := by rw [IntKind.wrap_i64]; omega
  have hw2 : IntKind.u64.wrap u = u := by rw [IntKind.wrap_u64]; omega
  rw [← hu] at H0 ⊢
  clear hu
  go_enter Tryz.func49, Tryz.ntmps49
  go_wp2
  go_loopg [9] 8 (fun gk iv wr => ∃ k : Nat, iv = .int .i64 k ∧ k ≤ 8 ∧ gk = 8 - k ∧ Hid (Wr B b (xs ++ (eightL u).take k) wr) ∧ Hid (Below B w wr) ∧ Hid (Marked b w wr))
  case atStart => exact ⟨0, rfl, by omega, rfl, H0, HB0, HM0⟩
  case round =>
    clear H0 HB0 HM0
    obtain ⟨k, rfl, hk, rfl, hwr, hbel, hmk⟩ := hrel
    have hB2 := Lib.hid (Nat.le_trans hBw hbel.out.size)
    have hll : Hid ((xs ++ (eightL u).take k).length ≤ 1000000) := by
      have : ((eightL u).take k).length ≤ 8 := by rw [List.length_take]; show min k 8 ≤ 8; omega
      unfold Hid; rw [List.length_append]; omega
    have hcall : ∀ (X : World) (x : Int), (eightL u)[k]? = some x → Calls Tryz.prog 50 #[.pointer (some ⟨b, 0, none⟩), .int .u8 x] (wr.later X) fun e w' => e = .returned .nilIface ∧ Wr B b (xs ++ (eightL u).take (k + 1)) w' ∧ Below B w w' ∧ Marked b w w' := fun X x hx => by
      have hbl := later_below wr X
      refine (wbyte_calls B b _ x _ (hwr.out.later X) (Nat.le_trans hB2.out hbl.size) hll.out).mono ?_
      rintro e w' ⟨rfl, h1, h2, h3⟩
      exact ⟨rfl, by rw [← take_snoc hx]; exact h1, (hbel.out.trans (hbl.mono hB2.out)).trans h2, (hmk.out.trans (Marked.later wr X)).trans h3⟩
    have HCALL := Lib.hid hcall
    clear hcall hll
    obtain ⟨wq, rfl⟩ : ∃ wq : World, wq = wr := ⟨_, rfl⟩
    by_cases hlt : k < 8
    · clear hk
      rcases (by omega : k = 0 ∨ k = 1 ∨ k = 2 ∨ k = 3 ∨ k = 4 ∨ k = 5 ∨ k = 6 ∨ k = 7) with rfl | rfl | rfl | rfl | rfl | rfl | rfl | rfl
      · go_wp2
        refine wp_region_later_tail 9 (by kernel_rfl) (by kernel_rfl) ?_
        simp only [List.take_succ_cons, List.take_zero, List.drop_succ_cons, List.drop_zero]
        repeat (go_big_quiet_step (fail))
        refine wpQuiet_nil ?_
        intro W1 hW1
        obtain ⟨X, rfl⟩ := hW1
        go_wp2_with (go_at_call 50; refine (HCALL.out X _ (by exact rfl)).mono ?_; rintro e w3 ⟨rfl, hw3, hb3, hm3⟩; have hw3 := Lib.hid hw3; have hb3 := Lib.hid hb3; have hm3 := Lib.hid hm3)
        go_roundg 7
        case measure => omega
        case rel => exact ⟨1, rfl, by omega, rfl, hw3, hb3, hm3⟩
      · go_wp2
        refine wp_region_later_tail 9 (by kernel_rfl) (by kernel_rfl) ?_
        simp only [List.take_succ_cons, List.take_zero, List.drop_succ_cons, List.drop_zero]
        repeat (go_big_quiet_step (fail))
        refine wpQuiet_nil ?_
        intro W1 hW1
        obtain ⟨X, rfl⟩ := hW1
        go_wp2_with (go_at_call 50; refine (HCALL.out X _ (by exact rfl)).mono ?_; rintro e w3 ⟨rfl, hw3, hb3, hm3⟩; have hw3 := Lib.hid hw3; have hb3 := Lib.hid hb3; have hm3 := Lib.hid hm3)
        go_roundg 6
        case measure => omega
        case rel => exact ⟨2, rfl, by omega, rfl, hw3, hb3, hm3⟩
      · go_wp2
        refine wp_region_later_tail 9 (by kernel_rfl) (by kernel_rfl) ?_
        simp only [List.take_succ_cons, List.take_zero, List.drop_succ_cons, List.drop_zero]
        repeat (go_big_quiet_step (fail))
        refine wpQuiet_nil ?_
        intro W1 hW1
        obtain ⟨X, rfl⟩ := hW1
        go_wp2_with (go_at_call 50; refine (HCALL.out X _ (by exact rfl)).mono ?_; rintro e w3 ⟨rfl, hw3, hb3, hm3⟩; have hw3 := Lib.hid hw3; have hb3 := Lib.hid hb3; have hm3 := Lib.hid hm3)
        go_roundg 5
        case measure => omega
        case rel => exact ⟨3, rfl, by omega, rfl, hw3, hb3, hm3⟩
      · go_wp2
        refine wp_region_later_tail 9 (by kernel_rfl) (by kernel_rfl) ?_
        simp only [List.take_succ_cons, List.take_zero, List.drop_succ_cons, List.drop_zero]
        repeat (go_big_quiet_step (fail))
        refine wpQuiet_nil ?_
        intro W1 hW1
        obtain ⟨X, rfl⟩ := hW1
        go_wp2_with (go_at_call 50; refine (HCALL.out X _ (by exact rfl)).mono ?_; rintro e w3 ⟨rfl, hw3, hb3, hm3⟩; have hw3 := Lib.hid hw3; have hb3 := Lib.hid hb3; have hm3 := Lib.hid hm3)
        go_roundg 4
        case measure => omega
        case rel => exact ⟨4, rfl, by omega, rfl, hw3, hb3, hm3⟩
      · go_wp2
        refine wp_region_later_tail 9 (by kernel_rfl) (by kernel_rfl) ?_
        simp only [List.take_succ_cons, List.take_zero, List.drop_succ_cons, List.drop_zero]
        repeat (go_big_quiet_step (fail))
        refine wpQuiet_nil ?_
        intro W1 hW1
        obtain ⟨X, rfl⟩ := hW1
        go_wp2_with (go_at_call 50; refine (HCALL.out X _ (by exact rfl)).mono ?_; rintro e w3 ⟨rfl, hw3, hb3, hm3⟩; have hw3 := Lib.hid hw3; have hb3 := Lib.hid hb3; have hm3 := Lib.hid hm3)
        go_roundg 3
        case measure => omega
        case rel => exact ⟨5, rfl, by omega, rfl, hw3, hb3, hm3⟩
      · go_wp2
        refine wp_region_later_tail 9 (by kernel_rfl) (by kernel_rfl) ?_
        simp only [List.take_succ_cons, List.take_zero, List.drop_succ_cons, List.drop_zero]
        repeat (go_big_quiet_step (fail))
        refine wpQuiet_nil ?_
        intro W1 hW1
        obtain ⟨X, rfl⟩ := hW1
        go_wp2_with (go_at_call 50; refine (HCALL.out X _ (by exact rfl)).mono ?_; rintro e w3 ⟨rfl, hw3, hb3, hm3⟩; have hw3 := Lib.hid hw3; have hb3 := Lib.hid hb3; have hm3 := Lib.hid hm3)
        go_roundg 2
        case measure => omega
        case rel => exact ⟨6, rfl, by omega, rfl, hw3, hb3, hm3⟩
      · go_wp2
        refine wp_region_later_tail 9 (by kernel_rfl) (by kernel_rfl) ?_
        simp only [List.take_succ_cons, List.take_zero, List.drop_succ_cons, List.drop_zero]
        repeat (go_big_quiet_step (fail))
        refine wpQuiet_nil ?_
        intro W1 hW1
        obtain ⟨X, rfl⟩ := hW1
        go_wp2_with (go_at_call 50; refine (HCALL.out X _ (by exact rfl)).mono ?_; rintro e w3 ⟨rfl, hw3, hb3, hm3⟩; have hw3 := Lib.hid hw3; have hb3 := Lib.hid hb3; have hm3 := Lib.hid hm3)
        go_roundg 1
        case measure => omega
        case rel => exact ⟨7, rfl, by omega, rfl, hw3, hb3, hm3⟩
      · go_wp2
        refine wp_region_later_tail 9 (by kernel_rfl) (by kernel_rfl) ?_
        simp only [List.take_succ_cons, List.take_zero, List.drop_succ_cons, List.drop_zero]
        repeat (go_big_quiet_step (fail))
        refine wpQuiet_nil ?_
        intro W1 hW1
        obtain ⟨X, rfl⟩ := hW1
        go_wp2_with (go_at_call 50; refine (HCALL.out X _ (by exact rfl)).mono ?_; rintro e w3 ⟨rfl, hw3, hb3, hm3⟩; have hw3 := Lib.hid hw3; have hb3 := Lib.hid hb3; have hm3 := Lib.hid hm3)
        go_roundg 0
        case measure => omega
        case rel => exact ⟨8, rfl, by omega, rfl, hw3, hb3, hm3⟩
    · obtain rfl : k = 8 := by omega
      go_wp2
      go_end0
      exact ⟨rfl, hwr.out, hbel.out, hmk.out.others⟩
end Go.Proofs.YtonghiaocpenaaaGreatDoor
