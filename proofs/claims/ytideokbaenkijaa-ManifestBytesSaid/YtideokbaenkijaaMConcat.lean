/-
  slices.Concat of rows of bytes.
-/
import Derived.Test.YtideokbaenkijaaMRow
import Derived.Test.YtideokbaenkijaaShelfG
namespace Go.Proofs.Ytideokbaenkijaa
open Go.RowKit

theorem grow_nil (n : Nat) (w : World) (hn : n ≤ 100000000) : Calls Try.prog 89 #[.slice none 0 0, .int .i64 n] w fun e w' => ∃ A cap, e = .returned (.slice A 0 cap) ∧ OwnB w' w.heap.size A 0 cap [] ∧ Below w.heap.size w w' := by
  obtain ⟨i0, hi, hz0, hz1, hz2⟩ := info_parts infoByte
  rcases Nat.eq_zero_or_pos n with rfl | hpos
  · refine (Try.slices_Grow_room_f89 none 0 0 0 w (by omega) (by omega) (by omega) (by omega)).mono ?_
    rintro e w' ⟨rfl, rfl⟩
    exact ⟨none, 0, rfl, Own.nil _ _ _ _ _, Below.refl _ _⟩
  · refine (Try.slices_Grow_grow_f89 i0 _ hi hz0 (by omega) none 0 0 n [] w (by omega) (by omega) (by rw [hz2]; omega) (by omega) (by simp) (fun _ => rfl) (fun a h => by cases h)).mono ?_
    rintro e w' ⟨rfl, rfl⟩
    have hge := grownCap_ge w (0 + n) 0 5
    have hle := grownCap_le_maxLen w (0 + n) 0 5 (by unfold maxLen; omega)
    obtain ⟨G, hG⟩ : ∃ G, G = grownCap w (0 + n) 0 5 := ⟨_, rfl⟩
    rw [← hG] at hge hle ⊢
    refine ⟨_, G, rfl, ⟨rfl, by simp, .inr ⟨w.heap.size, G, _, rfl, Nat.le_refl _, heap_alloc_new _ _, by omega, hle, ?_, by simp⟩⟩, ?_⟩
    · have hzc : ∀ k, (Builtin.zeroCells (Value.int .u8 0).cells k).size = k := fun k => by
        show (Builtin.zeroCells #[Value.int .u8 0] k).size = k
        simp [Builtin.zeroCells]
      simp [hzc]; omega
    · exact ((below_drew1 w).alloc (Nat.le_refl _) _)

set_option maxHeartbeats 2000000 in
set_option maxRecDepth 20000 in
theorem concat_calls (g k : Nat) (rows : List BRow) (w : World) (hx : Rd 1 BRow.l w (some ⟨g, 0, none⟩) k rows) (ho : ∀ r ∈ rows, BRowOk w r) (hs : sumL rows ≤ 10000000) (hk : k ≤ 10000000) :
    Calls Try.prog 77 #[.slice (some ⟨g, 0, none⟩) k k] w fun e w' => ∃ A n cap, e = .returned (.slice A n cap) ∧ OwnB w' w.heap.size A n cap (rows.flatMap BRow.xs) ∧ Below w.heap.size w w' := by
  have HX := Lib.hid hx
  have HO := Lib.hid ho
  have HS := Lib.hid hs
  have hkl := Lib.hid hx.len
  clear hx ho hs
  go_enter Try.func77, Try.ntmps77
  go_wp2
  go_loop [3, 11] (fun sz i => ∃ j : Nat, j ≤ k ∧ i = .int .i64 j ∧ sz = .int .i64 (((rows.take j).flatMap BRow.xs).length : Nat)) (fun _ i => k - (intOf i).toNat)
  case atStart => exact ⟨0, Nat.zero_le _, rfl, rfl⟩
  case round =>
    obtain ⟨j, hj, rfl, rfl⟩ := hrel
    by_cases hlt : j < k
    · obtain ⟨r, b, off, hr, e1, _, hr1⟩ := HX.out.get j hlt
      injection e1 with e1
      injection e1 with e1 e2 _
      subst e1; subst e2
      have k0 : w.cell? ⟨g, j, none⟩ = some (.slice r.A r.n r.cap) := by have := hr1 0 _ rfl; simpa using this
      have hrn : r.n = r.xs.length := (HO.out r (List.mem_of_getElem? hr)).rd.len
      have hsum : ((rows.take (j + 1)).flatMap BRow.xs).length = ((rows.take j).flatMap BRow.xs).length + r.n := by rw [sum_take hr, List.length_append, hrn]
      have hle1 := sum_le rows (j + 1)
      have hle := HS.out
      obtain ⟨s0, hs0⟩ : ∃ s0, s0 = ((rows.take j).flatMap BRow.xs).length := ⟨_, rfl⟩
      obtain ⟨s1, hs1⟩ : ∃ s1, s1 = ((rows.take (j + 1)).flatMap BRow.xs).length := ⟨_, rfl⟩
      rw [← hs0, ← hs1] at hsum
      rw [← hs1] at hle1
      rw [← hs0]
      have HS1 := Lib.hid hs1
      have hb1 : s0 + r.n ≤ 10000000 := by omega
      clear hr1 hr hrn hle1 hle hs0 hs1
      go_wp2
      go_round
      case rel => exact ⟨j + 1, by omega, by go_num, by rw [← HS1.out, hsum]; go_num⟩
      case measure => simp [intOf]; omega
    · obtain rfl : j = k := by omega
      have hall : rows.take j = rows := List.take_of_length_le (by rw [hkl.out]; exact Nat.le_refl _)
      rw [hall]
      have hle : sumL rows ≤ 10000000 := HS.out
      unfold sumL at hle
      obtain ⟨t, ht⟩ : ∃ t, t = (rows.flatMap BRow.xs).length := ⟨_, rfl⟩
      rw [← ht] at hle ⊢
      clear ht hall
      go_wp2_with fail
      refine (grow_nil t w (by omega)).mono ?_
      rintro e w1 ⟨A0, cap0, rfl, hown0, hb0⟩
      have HO0 := Lib.hid hown0
      have HB0 := Lib.hid hb0
      clear hown0 hb0
      go_wp2_with fail
      go_loopw [6, 27] (fun ns i wr => ∃ (q : Nat) (A : Option Addr) (n cap : Nat), q ≤ j ∧ i = .int .i64 q ∧ ns = .slice A n cap ∧ Hid (OwnB wr w.heap.size A n cap ((rows.take q).flatMap BRow.xs)) ∧ Hid (Below w.heap.size w wr)) (fun _ i _ => j - (intOf i).toNat)
      case atStart => exact ⟨0, A0, 0, cap0, Nat.zero_le _, rfl, rfl, HO0.out, HB0.out⟩
      case round =>
        obtain ⟨q, A, n, cap, hq, rfl, rfl, HOW, HBW⟩ := hrel
        clear HO0 HB0
        by_cases hlt : q < j
        · obtain ⟨r, b, off, hr, e1, _, hr1⟩ := HX.out.get q hlt
          injection e1 with e1
          injection e1 with e1 e2 _
          subst e1; subst e2
          have k0' : w.cell? ⟨g, q, none⟩ = some (.slice r.A r.n r.cap) := by have := hr1 0 _ rfl; simpa using this
          have k0 := below_cell HBW.out (Nat.le_refl _) k0'
          have hrow := HO.out r (List.mem_of_getElem? hr)
          have HRD := Lib.hid (hrow.rd.below HBW.out)
          have HNL := Lib.hid hrow.nil
          have hn1 : n = ((rows.take q).flatMap BRow.xs).length := HOW.out.1
          have hsz : n + r.n ≤ 10000000 := by
            have h1 := sum_le rows (q + 1)
            have h2 := HS.out
            rw [sum_take hr, List.length_append, ← hn1, ← hrow.rd.len] at h1
            omega
          have HNEW : Hid ((rows.take (q + 1)).flatMap BRow.xs = (rows.take q).flatMap BRow.xs ++ r.xs) := sum_take hr
          have hbase := Lib.hid HBW.out.size
          clear hr1 hr k0' hrow hn1
          go_wp2_with (at_builtin; refine app_bytes rfl (.tmp 31) (.tmp 32) rfl rfl HOW.out rfl HNL.out HRD.out (by omega) hbase.out ?_; intro A' cap' w4 h1 h2 h3 h4)
          have HO4 := Lib.hid h1
          have HB4 := Lib.hid (HBW.out.trans (h2.below hbase.out (own_above HOW.out)))
          clear h1 h2 h3 h4
          go_roundw
          case rel => exact ⟨q + 1, A', _, cap', by omega, by go_num, rfl, by unfold Hid; rw [HNEW.out]; exact HO4.out, HB4.out⟩
          case measure => simp [intOf]; omega
        · obtain rfl : q = j := by omega
          have hall : rows.take q = rows := List.take_of_length_le (by rw [hkl.out]; exact Nat.le_refl _)
          rw [hall] at HOW
          go_wp2
          go_ret
          exact ⟨A, n, cap, rfl, HOW.out, HBW.out⟩
end Go.Proofs.Ytideokbaenkijaa
