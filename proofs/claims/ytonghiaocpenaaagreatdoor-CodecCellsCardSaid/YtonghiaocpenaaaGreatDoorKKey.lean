/-
  The writer's key; Buffer.Bytes of a writer; slices.Clone of bytes.
-/
import Derived.Test.YtonghiaocpenaaaGreatDoorKTime
import Derived.Lib.SliceRun
namespace Go.Proofs.YtonghiaocpenaaaGreatDoor
open Go.RowKit

/-- A cell's key. -/
def keyL (c : Cell) : List Int := escL c.row ++ (escL c.fam ++ ((if c.kind = 4 then [0, 0] else escL c.qual) ++ (eightL (9223372036854775807 - c.time) ++ [255 - c.kind])))
theorem ok_parts {c : Cell} (h : c.ok = true) : 1 ≤ c.row.size ∧ c.row.size ≤ 16 ∧ nameOk c.fam = true ∧ c.qual.size ≤ 12 ∧ 0 ≤ c.time ∧ c.time ≤ 1099511627776 ∧ kindOk c = true := by
  unfold Cell.ok at h
  simp only [Bool.and_eq_true, decide_eq_true_eq] at h
  obtain ⟨h1, h2, h3, h4, h5, h6, h7⟩ := h
  exact ⟨by omega, h2, h3, h4, h5, h6, h7⟩
theorem name_small {s : ByteArray} (h : nameOk s = true) : 1 ≤ s.size ∧ s.size ≤ 8 := by
  unfold nameOk at h
  simp only [Bool.and_eq_true, decide_eq_true_eq] at h
  exact ⟨h.1, h.2.1⟩
theorem kind_small {c : Cell} (h : kindOk c = true) : 1 ≤ c.kind ∧ c.kind ≤ 4 := by
  unfold kindOk at h
  split at h
  · omega
  · split at h
    · omega
    · split at h
      · omega
      · split at h
        · omega
        · cases h

theorem bytes_calls (B b : Nat) (xs : List Int) (w : World) (h : Wr B b xs w) (hne : xs ≠ []) :
    Calls Tryz.prog 28 #[.pointer (some ⟨b, 0, none⟩)] w fun e w' => ∃ g cap, e = .returned (.slice (some ⟨g, 0, none⟩) xs.length cap) ∧ OwnB w' B (some ⟨g, 0, none⟩) xs.length cap xs ∧ Below w.heap.size w w' := by
  unfold Wr at h
  obtain ⟨hB, lr, hc⟩ := LibA.IsBuffer.cases h
  have hlen : (xs.map (Value.int .u8)).length = xs.length := List.length_map ..
  rcases hc with ⟨hnil, -⟩ | ⟨g, cap, cur, hbk, hBg, hg, hnc, hcm, hcs, htk, hgb⟩
  · exact absurd (List.map_eq_nil_iff.1 hnil) hne
  · rw [hlen] at hbk hnc htk
    have d0 : ∀ X, (w.later X).cell? ⟨b, 0, none⟩ = some (.slice (some ⟨g, 0, none⟩) xs.length cap) := later_cell hbk.c0
    have d1 : ∀ X, (w.later X).cell? ⟨b, 1, none⟩ = some (.int .i64 0) := later_cell hbk.c1
    have hown : OwnB w B (some ⟨g, 0, none⟩) xs.length cap xs := ⟨rfl, by rw [flatB, hlen, Nat.mul_one], .inr ⟨g, cap, cur, rfl, hBg, hg, hnc, hcm, by rw [Nat.mul_one]; exact hcs, by rw [Nat.mul_one, flatB]; exact htk⟩⟩
    have HOWN := Lib.hid hown
    have hcm' : (cap : Int) ≤ 9223372036854775807 := by unfold maxLen at hcm; omega
    have hle : (xs.length : Int) ≤ (cap : Int) := by omega
    clear hown hbk htk hg hcs h hlen
    generalize xs.length = n at *
    go_enter Tryz.func28, Tryz.ntmps28
    go_wp2
    refine wp_region_later (by kernel_rfl) (by kernel_rfl) ?_
    repeat (go_big_quiet_step (fail))
    refine wpQuiet_nil ?_
    intro W1 hW1
    obtain ⟨X, rfl⟩ := hW1
    go_wp2
    go_ret
    exact ⟨g, cap, rfl, HOWN.out.below (later_below w X), later_below w X⟩

set_option maxHeartbeats 1000000 in
set_option maxRecDepth 20000 in
theorem bclone_calls (A : Option Addr) (n ca : Nat) (xs : List Int) (w : World) (hx : RdB w A n xs) (hA : ∃ a, A = some a) (hn : n ≤ 10000000) :
    Calls Tryz.prog 27 #[.slice A n ca] w fun e w' => ∃ g cap, e = .returned (.slice (some ⟨g, 0, none⟩) n cap) ∧ OwnB w' w.heap.size (some ⟨g, 0, none⟩) n cap xs ∧ Below w.heap.size w w' := by
  obtain ⟨a, rfl⟩ := hA
  have hlit := Own.lit 5 1 encB w w.heap.size (Nat.le_refl _)
  have hbl : Below w.heap.size w (w.alloc (.cells #[] 5)) := (Below.refl _ _).alloc (Nat.le_refl _) _
  have HX := Lib.hid (hx.below hbl)
  have HL := Lib.hid hlit
  have HB := Lib.hid hbl
  clear hlit hbl hx
  have hq : (binOp .eql 29 (.slice (some a) n ca) (.slice none 0 0)).run Tryz.prog w = .ok (.bool false) w := Lib.run_eql_slice_nil w 29 5 (some a) n ca 0 0 Tryz.underlying29
  go_enter Tryz.func27, Tryz.ntmps27
  go_wp2_with (at_builtin; refine app_bytes rfl (.tmp 5) (.tmp 6) rfl rfl HL.out rfl (fun h => by cases h) HX.out (by omega) HB.out.size ?_; intro A' cap' w4 h1 h2 h3 h4)
  go_wp2
  go_ret
  rw [Nat.zero_add] at h1
  cases A' with
  | none => exact absurd (h4 rfl) (by simp)
  | some a' =>
    rcases h1.shape with ⟨e, _⟩ | ⟨g, e, e2, _⟩
    · cases e
    · injection e with e; subst e
      refine ⟨g, cap', rfl, h1, HB.out.trans (h2.below HB.out.size (fun i hi => by injection hi with hi; injection hi with hi; omega))⟩

theorem others_box {b : Nat} {w w' : World} {q : Nat} {cs : Array Value} {T : TypeId} (h : Lib.OthersKept 5 (some b) w w') (hg : w.heap[q]? = some (.cells cs T)) (hT : T ≠ 5) (hq : q ≠ b) : w'.heap[q]? = some (.cells cs T) :=
  h q _ hg (fun e => hq (by injection e)) (fun c fz e => hT (by injection e))

set_option maxHeartbeats 400000 in
set_option maxRecDepth 20000 in
theorem key_calls (B b : Nat) (c : Cell) (w : World) (h : Wr B b [] w) (hBw : B ≤ w.heap.size) (hc : c.ok = true) :
    Calls Tryz.prog 26 #[.pointer (some ⟨b, 0, none⟩), c.v] w fun e w' => e = .returned (.tuple #[]) ∧ Wr B b (keyL c) w' ∧ Below B w w' ∧ Lib.OthersKept 5 (some b) w w' := by
  obtain ⟨hr0, hr1, hf, hq, ht0, ht1, hk⟩ := ok_parts hc
  obtain ⟨hf0, hf1⟩ := name_small hf
  obtain ⟨hk0, hk1⟩ := kind_small hk
  clear hc hf hk
  have hbx : (w.alloc (.cells c.cells 25)).heap[w.heap.size]? = some (.cells c.cells 25) := heap_alloc_new _ _
  have hw1 := h.old (w' := w.alloc (.cells c.cells 25)) ((Below.refl _ _).alloc (Nat.le_refl _) _)
  have hB1 : Below B w (w.alloc (.cells c.cells 25)) := (Below.refl _ _).alloc hBw _
  have hO1 : Lib.OthersKept 5 (some b) w (w.alloc (.cells c.cells 25)) := (Lib.OthersKept.refl _ _ _).alloc _
  have hne : w.heap.size ≠ b := by have := h.lt; omega
  have hT : (25 : TypeId) ≠ 5 := by decide
  have es1 := esc_size c.row
  have es2 := esc_size c.fam
  have es3 := esc_size c.qual
  have cells : ∀ (W : World), W.heap[w.heap.size]? = some (.cells c.cells 25) → ∀ (i : Nat) v, c.cells[i]? = some v → W.cell? ⟨w.heap.size, i, none⟩ = some v := fun W hW i v hv => by
    rw [cell_of_row _ _ _ _ _ _ hW]; exact hv
  have CELLS := Lib.hid cells
  have a0 : (w.alloc (.cells c.cells 25)).cell? ⟨w.heap.size, 0, none⟩ = some (.string c.row) := cells _ hbx 0 _ rfl
  have HBX := Lib.hid hbx
  have HW1 := Lib.hid hw1
  have HB1 := Lib.hid hB1
  have HO1 := Lib.hid hO1
  have HH := Lib.hid h
  clear cells hbx hw1 hB1 hO1 h
  go_enter Tryz.func26, Tryz.ntmps26
  go_wp2_with fail
  refine (text_calls B b [] c.row _ HW1.out (Nat.le_trans hBw HB1.out.size) (by simp) (by omega)).mono ?_
  rintro e w2 ⟨rfl, hw2, hb2, ho2⟩
  have HBX2 := Lib.hid (others_box ho2 HBX.out hT hne)
  have HB2 := Lib.hid (HB1.out.trans hb2)
  have HO2 := Lib.hid (HO1.out.trans ho2)
  have HW2 := Lib.hid hw2
  have b1 : w2.cell? ⟨w.heap.size, 1, none⟩ = some (.string c.fam) := CELLS.out _ HBX2.out 1 _ rfl
  clear a0 hw2 hb2 ho2 HBX HW1 HB1 HO1
  go_wp2_with fail
  refine (text_calls B b _ c.fam _ HW2.out (Nat.le_trans hBw HB2.out.size) (by simp; omega) (by omega)).mono ?_
  rintro e w3 ⟨rfl, hw3, hb3, ho3⟩
  have HBX3 := Lib.hid (others_box ho3 HBX2.out hT hne)
  have HB3 := Lib.hid (HB2.out.trans hb3)
  have HO3 := Lib.hid (HO2.out.trans ho3)
  have HW3 := Lib.hid hw3
  have c4 : w3.cell? ⟨w.heap.size, 4, none⟩ = some (.int .i64 c.kind) := CELLS.out _ HBX3.out 4 _ rfl
  have c2 : w3.cell? ⟨w.heap.size, 2, none⟩ = some (.string c.qual) := CELLS.out _ HBX3.out 2 _ rfl
  have hl3 : Hid (([] ++ escL c.row ++ escL c.fam).length ≤ 1000) := by unfold Hid; simp; omega
  clear b1 hw3 hb3 ho3 HBX2 HW2 HB2 HO2
  obtain ⟨ql, hql⟩ : ∃ ql, ql = if c.kind = 4 then [0, 0] else escL c.qual := ⟨_, rfl⟩
  have hqs : Hid (ql.length ≤ 100) := by
    unfold Hid; rw [hql]; split
    · show (2 : Nat) ≤ 100; omega
    · omega
  by_cases h4 : c.kind = 4
  · rw [if_pos h4] at hql
    have hlit : Hid (∀ (j : Nat) (x : Int), ([0, 0] : List Int)[j]? = some x → (w3.alloc (.cells #[.int .u8 0, .int .u8 0] 5)).cell? ⟨w3.heap.size, j, none⟩ = some (.int .u8 x)) := fun j x hj => by
      rw [World.cell?_alloc_new]
      rcases j with _ | _ | j
      · simp at hj; subst hj; rfl
      · simp at hj; subst hj; rfl
      · simp at hj
    have HQL := Lib.hid hql
    have hk4 : c.kind = 4 := h4
    rw [hk4] at c4
    have hblt := Lib.hid HW3.out.lt
    clear hql h4
    go_wp2_with fail
    refine (write_calls B b _ [0, 0] _ (HW3.out.old ((Below.refl _ _).alloc (Nat.le_refl _) _)) (Nat.le_trans hBw (HB3.out.alloc (Nat.le_trans hBw HB3.out.size) _).size) (by have := hl3.out; omega) w3.heap.size 2 2 hlit.out rfl (by omega) (by have := hblt.out; omega)).mono ?_
    rintro e w4 ⟨rfl, hw4, hb4, ho4⟩
    have HBX4 := Lib.hid (others_box ((Lib.OthersKept.refl _ _ _).alloc _ |>.trans ho4) HBX3.out hT hne)
    have HB4 := Lib.hid ((HB3.out.alloc (Nat.le_trans hBw HB3.out.size) _).trans hb4)
    have HO4 := Lib.hid ((HO3.out.alloc _).trans ho4)
    have HW4 := Lib.hid hw4
    have d3 : w4.cell? ⟨w.heap.size, 3, none⟩ = some (.int .i64 c.time) := CELLS.out _ HBX4.out 3 _ rfl
    have d4 : w4.cell? ⟨w.heap.size, 4, none⟩ = some (.int .i64 c.kind) := CELLS.out _ HBX4.out 4 _ rfl
    clear hw4 hb4 ho4 HW3 HB3 HO3 c4 c2 hlit HBX3
    go_wp2_with fail
    refine (time_calls B b _ c.time _ HW4.out (Nat.le_trans hBw HB4.out.size) (by have := hl3.out; rw [List.length_append]; show _ + 2 ≤ _; omega) ht0 (by omega)).mono ?_
    rintro e w5 ⟨rfl, hw5, hb5, ho5⟩
    have HBX5 := others_box ho5 HBX4.out hT hne
    have HB5 := Lib.hid (HB4.out.trans hb5)
    have HO5 := Lib.hid (HO4.out.trans ho5)
    have HW5 := Lib.hid hw5
    have e4 : w5.cell? ⟨w.heap.size, 4, none⟩ = some (.int .i64 4) := CELLS.out _ HBX5 4 _ (by rw [← hk4]; rfl)
    have e5 := later_cell e4
    have hwk : IntKind.u8.wrap (255 - c.kind) = 255 - c.kind := by rw [IntKind.wrap_u8]; omega
    rw [hk4] at hwk
    clear hw5 hb5 ho5 HW4 HB4 HO4 d3 d4 HBX4 HBX5 e4
    go_wp2
    refine wp_region_later_tail 7 (by kernel_rfl) (by kernel_rfl) ?_
    simp only [List.take_succ_cons, List.take_zero, List.drop_succ_cons, List.drop_zero]
    repeat (go_big_quiet_step (fail))
    refine wpQuiet_nil ?_
    intro W1 hW1
    obtain ⟨X, rfl⟩ := hW1
    go_wp2_with fail
    refine (wbyte_calls B b _ _ _ (HW5.out.later X) (Nat.le_trans hBw (HB5.out.trans ((later_below w5 X).mono (Nat.le_trans hBw HB5.out.size))).size) (by have := hl3.out; have h8 : (eightL (9223372036854775807 - c.time)).length = 8 := rfl; rw [List.length_append, List.length_append, h8]; show _ + 2 + 8 ≤ _; omega)).mono ?_
    rintro e w6 ⟨rfl, hw6, hb6, hm6⟩
    have HB6 := Lib.hid ((HB5.out.trans ((later_below w5 X).mono (Nat.le_trans hBw HB5.out.size))).trans hb6)
    have HO6 := Lib.hid ((HO5.out.trans (Marked.later (b := b) w5 X).others).trans hm6.others)
    have HW6 := Lib.hid hw6
    clear hw6 hb6 hm6
    go_wp2
    go_end0
    refine ⟨rfl, ?_, HB6.out, HO6.out⟩
    have := HW6.out
    unfold keyL
    rw [if_pos hk4, hk4]
    simpa [List.append_assoc] using this
  · rw [if_neg h4] at hql
    subst hql
    go_wp2_with fail
    refine (text_calls B b _ c.qual _ HW3.out (Nat.le_trans hBw HB3.out.size) (by have := hl3.out; omega) (by omega)).mono ?_
    rintro e w4 ⟨rfl, hw4, hb4, ho4⟩
    have HBX4 := Lib.hid (others_box ho4 HBX3.out hT hne)
    have HB4 := Lib.hid (HB3.out.trans hb4)
    have HO4 := Lib.hid (HO3.out.trans ho4)
    have HW4 := Lib.hid hw4
    have d3 : w4.cell? ⟨w.heap.size, 3, none⟩ = some (.int .i64 c.time) := CELLS.out _ HBX4.out 3 _ rfl
    have d4 : w4.cell? ⟨w.heap.size, 4, none⟩ = some (.int .i64 c.kind) := CELLS.out _ HBX4.out 4 _ rfl
    clear hw4 hb4 ho4 HW3 HB3 HO3 c4 c2 HBX3
    go_wp2_with fail
    refine (time_calls B b _ c.time _ HW4.out (Nat.le_trans hBw HB4.out.size) (by have := hl3.out; rw [List.length_append]; have := hqs.out; omega) ht0 (by omega)).mono ?_
    rintro e w5 ⟨rfl, hw5, hb5, ho5⟩
    have HBX5 := others_box ho5 HBX4.out hT hne
    have HB5 := Lib.hid (HB4.out.trans hb5)
    have HO5 := Lib.hid (HO4.out.trans ho5)
    have HW5 := Lib.hid hw5
    have e4 : w5.cell? ⟨w.heap.size, 4, none⟩ = some (.int .i64 c.kind) := CELLS.out _ HBX5 4 _ rfl
    have e5 := later_cell e4
    have hwk : IntKind.u8.wrap (255 - c.kind) = 255 - c.kind := by rw [IntKind.wrap_u8]; omega
    skip
    clear hw5 hb5 ho5 HW4 HB4 HO4 d3 d4 HBX4 HBX5 e4
    go_wp2
    refine wp_region_later_tail 7 (by kernel_rfl) (by kernel_rfl) ?_
    simp only [List.take_succ_cons, List.take_zero, List.drop_succ_cons, List.drop_zero]
    repeat (go_big_quiet_step (fail))
    refine wpQuiet_nil ?_
    intro W1 hW1
    obtain ⟨X, rfl⟩ := hW1
    go_wp2_with fail
    refine (wbyte_calls B b _ _ _ (HW5.out.later X) (Nat.le_trans hBw (HB5.out.trans ((later_below w5 X).mono (Nat.le_trans hBw HB5.out.size))).size) (by have := hl3.out; have h8 : (eightL (9223372036854775807 - c.time)).length = 8 := rfl; rw [List.length_append, List.length_append, h8]; have := hqs.out; omega)).mono ?_
    rintro e w6 ⟨rfl, hw6, hb6, hm6⟩
    have HB6 := Lib.hid ((HB5.out.trans ((later_below w5 X).mono (Nat.le_trans hBw HB5.out.size))).trans hb6)
    have HO6 := Lib.hid ((HO5.out.trans (Marked.later (b := b) w5 X).others).trans hm6.others)
    have HW6 := Lib.hid hw6
    clear hw6 hb6 hm6
    go_wp2
    go_end0
    refine ⟨rfl, ?_, HB6.out, HO6.out⟩
    have := HW6.out
    unfold keyL
    rw [if_neg h4]
    simpa [List.append_assoc] using this
end Go.Proofs.YtonghiaocpenaaaGreatDoor
