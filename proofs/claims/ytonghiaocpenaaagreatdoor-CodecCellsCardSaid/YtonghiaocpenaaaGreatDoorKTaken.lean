/-
  val.taken at a float.
  val.taken at a bool.
  val.taken at an int.
  val.taken at a text.
  val.taken.
-/
import Derived.Test.YtonghiaocpenaaaGreatDoorKTakenV
namespace Go.Proofs.YtonghiaocpenaaaGreatDoor
open Go.RowKit

set_option maxHeartbeats 1000000 in
set_option maxRecDepth 100000 in
theorem taken5_calls (b off n cap : Nat) (xs : List Int) (w : World) (hx : RdB w (some ⟨b, off, none⟩) n xs) (hbl : b < w.heap.size) (hb : Bytes xs) (hT : Lib.Utf8Tabs 0 1 w) :
    Calls Tryz.prog 77 #[.int .i64 5, .slice (some ⟨b, off, none⟩) n cap] w (TakenOut 5 xs w) := by
  obtain ⟨hB, hr, hv⟩ := two_boxes w #[.int .i64 0, .int .i64 0, .string ⟨#[]⟩] #[.int .i64 5, .int .i64 0, .string ⟨#[]⟩] 23 23
  obtain ⟨W0, hW0⟩ : ∃ W0, W0 = (w.alloc (.cells #[.int .i64 0, .int .i64 0, .string ⟨#[]⟩] 23)).alloc (.cells #[.int .i64 5, .int .i64 0, .string ⟨#[]⟩] 23) := ⟨_, rfl⟩
  have hg0 : W0.heap[w.heap.size]? = some (.cells #[.int .i64 0, .int .i64 0, .string ⟨#[]⟩] 23) := by
    rw [hW0, heap_alloc_old _ _ (by simp), heap_alloc_new]
  have hg1 : W0.heap[w.heap.size + 1]? = some (.cells #[.int .i64 5, .int .i64 0, .string ⟨#[]⟩] 23) := by
    have := heap_alloc_new (w.alloc (.cells #[.int .i64 0, .int .i64 0, .string ⟨#[]⟩] 23)) (.cells #[.int .i64 5, .int .i64 0, .string ⟨#[]⟩] 23)
    rw [hW0]
    simpa using this
  rw [← hW0] at hB
  clear hr hv
  have HT := Lib.hid hT
  have HX := Lib.hid (hx.below hB)
  have HBY := Lib.hid hb
  have hbl0 : b < W0.heap.size := Nat.lt_of_lt_of_le hbl hB.size
  have hs0 : W0.heap.size = w.heap.size + 2 := by rw [hW0]; simp
  have HS0 := Lib.hid hs0
  have HB := Lib.hid hB
  have HG0 := Lib.hid hg0
  have HG1 := Lib.hid hg1
  have HW0 := Lib.hid hW0
  clear hx hb hT hB hs0 hg0 hg1 hW0
  go_enter Tryz.func77, Tryz.ntmps77
  go_wp2_with fail
  rw [← HW0.out]
  refine (from_calls b off n cap xs W0 HX.out HBY.out).mono ?_
  rintro e w2 ⟨hb2, ⟨m, hm, rfl⟩ | ⟨hm, rfl⟩⟩
  · have g0 := (hb2.block _ (by have := HS0.out; omega)).trans HG0.out
    have g1 := (hb2.block _ (by have := HS0.out; omega)).trans HG1.out
    have hb2s := hb2.size
    have hBw2 := HB.out.trans (hb2.mono HB.out.size)
    have hmf : floatOk m = true ∧ isInt m := by
      unfold fromV at hm
      split at hm
      · rename_i h
        injection hm with hm
        subst hm
        refine ⟨h.2, ?_⟩
        rw [IntKind.wrap_i64]
        unfold isInt
        omega
      · cases hm
    have hNI := hmf.2
    have hSs : (⟨#[]⟩ : ByteArray).size ≤ 140737488351232 := by decide
    have htk : takenV 5 xs = if valOk 5 m ⟨#[]⟩ = true then some (m, ⟨#[]⟩) else none := by
      have e : valOk 5 m ⟨#[]⟩ = true := by unfold valOk; simp [hmf.1]; rfl
      rw [if_pos e]
      unfold takenV
      rw [hm]; rfl
    clear hmf
    have v1 : w2.cell? ⟨w.heap.size + 1, 1, none⟩ = some (.int .i64 0) := by rw [cell_of_row _ _ _ _ _ _ g1]; rfl
    have f1 : w2.frozen? ⟨w.heap.size + 1, 1, none⟩ = false := Lib.frozen_of_heap g1 _
    have a1 : (w2.setCell ⟨w.heap.size + 1, 1, none⟩ (.int .i64 m)).heap[w.heap.size + 1]? = some (.cells #[.int .i64 5, .int .i64 (m), .string (⟨#[]⟩)] 23) := by
      have := Lib.heap_setCell_same (i := 1) g1 (.int .i64 m)
      simpa using this
    have a0 : (w2.setCell ⟨w.heap.size + 1, 1, none⟩ (.int .i64 m)).heap[w.heap.size]? = some (.cells #[.int .i64 0, .int .i64 0, .string ⟨#[]⟩] 23) := by
      rw [Below.heap_setCell _ _ _ _ (by simp)]; exact g0
    have hBW : Below w.heap.size w (w2.setCell ⟨w.heap.size + 1, 1, none⟩ (.int .i64 m)) := hBw2.setCell (p := ⟨w.heap.size + 1, 1, none⟩) (by show w.heap.size ≤ w.heap.size + 1; omega) _
    have hsW : W0.heap.size ≤ (w2.setCell ⟨w.heap.size + 1, 1, none⟩ (.int .i64 m)).heap.size := by rw [World.size_setCell]; exact hb2s
    have hTW : Lib.Utf8Tabs 0 1 (w2.setCell ⟨w.heap.size + 1, 1, none⟩ (.int .i64 m)) := tabs_below HT.out hBW
    clear g0 g1
    go_wp2_with fail
    generalize w2.setCell ⟨w.heap.size + 1, 1, none⟩ (.int .i64 m) = W at *
    have hv := vright_calls 5 m ⟨#[]⟩ W.drew hNI hSs hTW
    obtain ⟨vo, hvo⟩ : ∃ vo, vo = valOk 5 m ⟨#[]⟩ := ⟨_, rfl⟩
    rw [← hvo] at hv htk
    have HV := Lib.hid hv
    have HTK := Lib.hid htk
    clear hv htk hvo
    have hcells : ∀ X : World, X.heap[w.heap.size + 1]? = W.heap[w.heap.size + 1]? → X.heap[w.heap.size]? = W.heap[w.heap.size]? → (X.cell? ⟨w.heap.size + 1, 0, none⟩ = some (.int .i64 5) ∧ X.cell? ⟨w.heap.size + 1, 1, none⟩ = some (.int .i64 (m)) ∧ X.cell? ⟨w.heap.size + 1, 2, none⟩ = some (.string (⟨#[]⟩))) ∧ (X.cell? ⟨w.heap.size, 0, none⟩ = some (.int .i64 0) ∧ X.cell? ⟨w.heap.size, 1, none⟩ = some (.int .i64 0) ∧ X.cell? ⟨w.heap.size, 2, none⟩ = some (.string ⟨#[]⟩)) ∧ (∀ i, X.frozen? ⟨w.heap.size, i, none⟩ = false) := fun X h1 h0 => by
      rw [a1] at h1
      rw [a0] at h0
      refine ⟨⟨?_, ?_, ?_⟩, ⟨?_, ?_, ?_⟩, fun i => Lib.frozen_of_heap h0 _⟩
      · rw [cell_of_row _ _ _ _ _ _ h1]; rfl
      · rw [cell_of_row _ _ _ _ _ _ h1]; rfl
      · rw [cell_of_row _ _ _ _ _ _ h1]; rfl
      · rw [cell_of_row _ _ _ _ _ _ h0]; rfl
      · rw [cell_of_row _ _ _ _ _ _ h0]; rfl
      · rw [cell_of_row _ _ _ _ _ _ h0]; rfl
    obtain ⟨⟨x0, x1, x2⟩, ⟨y0, y1, y2⟩, yf⟩ := hcells W rfl rfl
    have y3 := yf 0
    have y4 := yf 1
    have y5 := yf 2
    have HCELLS := Lib.hid hcells
    have HBW := Lib.hid hBW
    have HSW := Lib.hid hsW
    clear hcells yf hBW hsW hTW a0 a1
    go_region_law (go_simp; go_wp2_with (go_at_call 34; refine HV.out.mono ?_; rintro e w3 ⟨rfl, hb3⟩; obtain ⟨⟨z0, z1, z2⟩, ⟨z3, z4, z5⟩, zf⟩ := HCELLS.out w3 (hb3.block _ (by have := HSW.out; have := HS0.out; show _ < W.heap.size; omega)) (hb3.block _ (by have := HSW.out; have := HS0.out; show _ < W.heap.size; omega)); have z6 := zf 0; have z7 := zf 1; have z8 := zf 2; clear zf; have hb3 := Lib.hid hb3))
    all_goals go_wp2
    all_goals refine bodyPost_ret (by simp [results, Tryz.results77, go_sem, z3, z4, z5]; try rfl) rfl ?_
    all_goals (
      refine ⟨(((HBW.out.drew.trans (hb3.out.mono (by show w.heap.size ≤ W.heap.size; exact HBW.out.size))).setCell (p := ⟨w.heap.size, 0, none⟩) (Nat.le_refl _) _).setCell (p := ⟨w.heap.size, 1, none⟩) (Nat.le_refl _) _).setCell (p := ⟨w.heap.size, 2, none⟩) (Nat.le_refl _) _, ?_⟩
      exact ⟨_, _, vo, rfl, HTK.out⟩)
  · have g0 := (hb2.block _ (by have := HS0.out; omega)).trans HG0.out
    have g1 := (hb2.block _ (by have := HS0.out; omega)).trans HG1.out
    have hb2s := hb2.size
    have hBw2 := HB.out.trans (hb2.mono HB.out.size)
    have hno : takenV 5 xs = none := by unfold takenV; rw [hm]; rfl
    have HNO := Lib.hid hno
    clear hno
    have v1 : w2.cell? ⟨w.heap.size + 1, 1, none⟩ = some (.int .i64 0) := by rw [cell_of_row _ _ _ _ _ _ g1]; rfl
    have f1 : w2.frozen? ⟨w.heap.size + 1, 1, none⟩ = false := Lib.frozen_of_heap g1 _
    have a1 : (w2.setCell ⟨w.heap.size + 1, 1, none⟩ (.int .i64 0)).heap[w.heap.size + 1]? = some (.cells #[.int .i64 5, .int .i64 (0), .string (⟨#[]⟩)] 23) := by
      have := Lib.heap_setCell_same (i := 1) g1 (.int .i64 0)
      simpa using this
    have a0 : (w2.setCell ⟨w.heap.size + 1, 1, none⟩ (.int .i64 0)).heap[w.heap.size]? = some (.cells #[.int .i64 0, .int .i64 0, .string ⟨#[]⟩] 23) := by
      rw [Below.heap_setCell _ _ _ _ (by simp)]; exact g0
    have hBW : Below w.heap.size w (w2.setCell ⟨w.heap.size + 1, 1, none⟩ (.int .i64 0)) := hBw2.setCell (p := ⟨w.heap.size + 1, 1, none⟩) (by show w.heap.size ≤ w.heap.size + 1; omega) _
    have hsW : W0.heap.size ≤ (w2.setCell ⟨w.heap.size + 1, 1, none⟩ (.int .i64 0)).heap.size := by rw [World.size_setCell]; exact hb2s
    have hTW : Lib.Utf8Tabs 0 1 (w2.setCell ⟨w.heap.size + 1, 1, none⟩ (.int .i64 0)) := tabs_below HT.out hBW
    clear g0 g1
    go_wp2_with fail
    generalize w2.setCell ⟨w.heap.size + 1, 1, none⟩ (.int .i64 0) = W at *
    have hcells : ∀ X : World, X.heap[w.heap.size + 1]? = W.heap[w.heap.size + 1]? → X.heap[w.heap.size]? = W.heap[w.heap.size]? → (X.cell? ⟨w.heap.size + 1, 0, none⟩ = some (.int .i64 5) ∧ X.cell? ⟨w.heap.size + 1, 1, none⟩ = some (.int .i64 (0)) ∧ X.cell? ⟨w.heap.size + 1, 2, none⟩ = some (.string (⟨#[]⟩))) ∧ (X.cell? ⟨w.heap.size, 0, none⟩ = some (.int .i64 0) ∧ X.cell? ⟨w.heap.size, 1, none⟩ = some (.int .i64 0) ∧ X.cell? ⟨w.heap.size, 2, none⟩ = some (.string ⟨#[]⟩)) ∧ (∀ i, X.frozen? ⟨w.heap.size, i, none⟩ = false) := fun X h1 h0 => by
      rw [a1] at h1
      rw [a0] at h0
      refine ⟨⟨?_, ?_, ?_⟩, ⟨?_, ?_, ?_⟩, fun i => Lib.frozen_of_heap h0 _⟩
      · rw [cell_of_row _ _ _ _ _ _ h1]; rfl
      · rw [cell_of_row _ _ _ _ _ _ h1]; rfl
      · rw [cell_of_row _ _ _ _ _ _ h1]; rfl
      · rw [cell_of_row _ _ _ _ _ _ h0]; rfl
      · rw [cell_of_row _ _ _ _ _ _ h0]; rfl
      · rw [cell_of_row _ _ _ _ _ _ h0]; rfl
    obtain ⟨⟨x0, x1, x2⟩, ⟨y0, y1, y2⟩, yf⟩ := hcells W rfl rfl
    have y3 := yf 0
    have y4 := yf 1
    have y5 := yf 2
    have HCELLS := Lib.hid hcells
    have HBW := Lib.hid hBW
    have HSW := Lib.hid hsW
    clear hcells yf hBW hsW hTW a0 a1
    go_region_law (fail)
    all_goals go_wp2
    all_goals refine bodyPost_ret (by simp [results, Tryz.results77, go_sem, y0, y1, y2]; try rfl) rfl ?_
    all_goals exact ⟨((HBW.out.drew.setCell (p := ⟨w.heap.size, 0, none⟩) (Nat.le_refl _) _).setCell (p := ⟨w.heap.size, 1, none⟩) (Nat.le_refl _) _).setCell (p := ⟨w.heap.size, 2, none⟩) (Nat.le_refl _) _, _, _, false, rfl, by rw [HNO.out]; rfl⟩
end Go.Proofs.YtonghiaocpenaaaGreatDoor
namespace Go.Proofs.YtonghiaocpenaaaGreatDoor
open Go.RowKit

set_option maxHeartbeats 1000000 in
set_option maxRecDepth 100000 in
theorem taken4_calls (b off n cap : Nat) (xs : List Int) (w : World) (hx : RdB w (some ⟨b, off, none⟩) n xs) (hbl : b < w.heap.size) (hb : Bytes xs) (hn : n ≤ 1000000) (hcap : n ≤ cap) (hT : Lib.Utf8Tabs 0 1 w) :
    Calls Tryz.prog 77 #[.int .i64 4, .slice (some ⟨b, off, none⟩) n cap] w (TakenOut 4 xs w) := by
  obtain ⟨hB, hr, hv⟩ := two_boxes w #[.int .i64 0, .int .i64 0, .string ⟨#[]⟩] #[.int .i64 4, .int .i64 0, .string ⟨#[]⟩] 23 23
  obtain ⟨W0, hW0⟩ : ∃ W0, W0 = (w.alloc (.cells #[.int .i64 0, .int .i64 0, .string ⟨#[]⟩] 23)).alloc (.cells #[.int .i64 4, .int .i64 0, .string ⟨#[]⟩] 23) := ⟨_, rfl⟩
  have hg0 : W0.heap[w.heap.size]? = some (.cells #[.int .i64 0, .int .i64 0, .string ⟨#[]⟩] 23) := by
    rw [hW0, heap_alloc_old _ _ (by simp), heap_alloc_new]
  have hg1 : W0.heap[w.heap.size + 1]? = some (.cells #[.int .i64 4, .int .i64 0, .string ⟨#[]⟩] 23) := by
    have := heap_alloc_new (w.alloc (.cells #[.int .i64 0, .int .i64 0, .string ⟨#[]⟩] 23)) (.cells #[.int .i64 4, .int .i64 0, .string ⟨#[]⟩] 23)
    rw [hW0]
    simpa using this
  rw [← hW0] at hB
  clear hr hv
  have HT := Lib.hid hT
  have HX := Lib.hid (hx.below hB)
  have HBY := Lib.hid hb
  have hbl0 : b < W0.heap.size := Nat.lt_of_lt_of_le hbl hB.size
  have hs0 : W0.heap.size = w.heap.size + 2 := by rw [hW0]; simp
  have HS0 := Lib.hid hs0
  have HB := Lib.hid hB
  have HG0 := Lib.hid hg0
  have HG1 := Lib.hid hg1
  have HW0 := Lib.hid hW0
  clear hx hb hT hB hs0 hg0 hg1 hW0
  by_cases h1 : n = 1
  · obtain ⟨x, hxx⟩ : ∃ x, xs[0]? = some x := ⟨_, List.getElem?_eq_getElem (by rw [← HX.out.len, h1]; omega)⟩
    have hcell : W0.cell? ⟨b, off, none⟩ = some (.int .u8 x) := rdb_cell HX.out hxx
    have hxs : xs = [x] := by
      have hl := HX.out.len
      rw [h1] at hl
      match xs, hl, hxx with
      | [y], _, h => simpa using h
    obtain ⟨x0', x1'⟩ := HBY.out.at hxx
    subst h1
    have hNI : isInt x := by unfold isInt; omega
    have hSs : (⟨#[]⟩ : ByteArray).size ≤ 140737488351232 := by decide
    have htk : takenV 4 xs = if valOk 4 x ⟨#[]⟩ = true then some (x, ⟨#[]⟩) else none := by
      have e : valOk 4 x ⟨#[]⟩ = true ↔ x = 0 ∨ x = 1 := by unfold valOk; simp; intro _; rfl
      rw [hxs]
      unfold takenV
      by_cases hx : x = 0 ∨ x = 1
      · rw [if_pos (e.2 hx)]; simp [hx]
      · rw [if_neg (fun h => hx (e.1 h))]; simp [hx]
    clear hxx hxs
    have g0 := HG0.out
    have g1 := HG1.out
    have hb2s := Nat.le_refl W0.heap.size
    have hBw2 := HB.out
    have v1 : W0.cell? ⟨w.heap.size + 1, 1, none⟩ = some (.int .i64 0) := by rw [cell_of_row _ _ _ _ _ _ g1]; rfl
    have f1 : W0.frozen? ⟨w.heap.size + 1, 1, none⟩ = false := Lib.frozen_of_heap g1 _
    have a1 : (W0.setCell ⟨w.heap.size + 1, 1, none⟩ (.int .i64 x)).heap[w.heap.size + 1]? = some (.cells #[.int .i64 4, .int .i64 (x), .string (⟨#[]⟩)] 23) := by
      have := Lib.heap_setCell_same (i := 1) g1 (.int .i64 x)
      simpa using this
    have a0 : (W0.setCell ⟨w.heap.size + 1, 1, none⟩ (.int .i64 x)).heap[w.heap.size]? = some (.cells #[.int .i64 0, .int .i64 0, .string ⟨#[]⟩] 23) := by
      rw [Below.heap_setCell _ _ _ _ (by simp)]; exact g0
    have hBW : Below w.heap.size w (W0.setCell ⟨w.heap.size + 1, 1, none⟩ (.int .i64 x)) := hBw2.setCell (p := ⟨w.heap.size + 1, 1, none⟩) (by show w.heap.size ≤ w.heap.size + 1; omega) _
    have hsW : W0.heap.size ≤ (W0.setCell ⟨w.heap.size + 1, 1, none⟩ (.int .i64 x)).heap.size := by rw [World.size_setCell]; exact hb2s
    have hTW : Lib.Utf8Tabs 0 1 (W0.setCell ⟨w.heap.size + 1, 1, none⟩ (.int .i64 x)) := tabs_below HT.out hBW
    clear g0 g1
    have HCL := Lib.hid hcell
    rw [HW0.out] at hcell v1 f1
    go_enter Tryz.func77, Tryz.ntmps77
    go_wp2_with fail
    have ew : W0.setCell ⟨w.heap.size + 1, 1, none⟩ (.int .i64 x) = (w.alloc (.cells #[.int .i64 0, .int .i64 0, .string ⟨#[]⟩] 23)).alloc (.cells #[.int .i64 4, .int .i64 x, .string ⟨#[]⟩] 23) := by
      rw [HW0.out]; simp [go_sem]
    rw [← ew]
    clear ew
    generalize W0.setCell ⟨w.heap.size + 1, 1, none⟩ (.int .i64 x) = W at *
    have hv := vright_calls 4 x ⟨#[]⟩ W.drew hNI hSs hTW
    obtain ⟨vo, hvo⟩ : ∃ vo, vo = valOk 4 x ⟨#[]⟩ := ⟨_, rfl⟩
    rw [← hvo] at hv htk
    have HV := Lib.hid hv
    have HTK := Lib.hid htk
    clear hv htk hvo
    have hcells : ∀ X : World, X.heap[w.heap.size + 1]? = W.heap[w.heap.size + 1]? → X.heap[w.heap.size]? = W.heap[w.heap.size]? → (X.cell? ⟨w.heap.size + 1, 0, none⟩ = some (.int .i64 4) ∧ X.cell? ⟨w.heap.size + 1, 1, none⟩ = some (.int .i64 (x)) ∧ X.cell? ⟨w.heap.size + 1, 2, none⟩ = some (.string (⟨#[]⟩))) ∧ (X.cell? ⟨w.heap.size, 0, none⟩ = some (.int .i64 0) ∧ X.cell? ⟨w.heap.size, 1, none⟩ = some (.int .i64 0) ∧ X.cell? ⟨w.heap.size, 2, none⟩ = some (.string ⟨#[]⟩)) ∧ (∀ i, X.frozen? ⟨w.heap.size, i, none⟩ = false) := fun X h1 h0 => by
      rw [a1] at h1
      rw [a0] at h0
      refine ⟨⟨?_, ?_, ?_⟩, ⟨?_, ?_, ?_⟩, fun i => Lib.frozen_of_heap h0 _⟩
      · rw [cell_of_row _ _ _ _ _ _ h1]; rfl
      · rw [cell_of_row _ _ _ _ _ _ h1]; rfl
      · rw [cell_of_row _ _ _ _ _ _ h1]; rfl
      · rw [cell_of_row _ _ _ _ _ _ h0]; rfl
      · rw [cell_of_row _ _ _ _ _ _ h0]; rfl
      · rw [cell_of_row _ _ _ _ _ _ h0]; rfl
    obtain ⟨⟨x0, x1, x2⟩, ⟨y0, y1, y2⟩, yf⟩ := hcells W rfl rfl
    have y3 := yf 0
    have y4 := yf 1
    have y5 := yf 2
    have HCELLS := Lib.hid hcells
    have HBW := Lib.hid hBW
    have HSW := Lib.hid hsW
    clear hcells yf hBW hsW hTW a0 a1
    go_region_law (go_simp; go_wp2_with (go_at_call 34; refine HV.out.mono ?_; rintro e w3 ⟨rfl, hb3⟩; obtain ⟨⟨z0, z1, z2⟩, ⟨z3, z4, z5⟩, zf⟩ := HCELLS.out w3 (hb3.block _ (by have := HSW.out; have := HS0.out; show _ < W.heap.size; omega)) (hb3.block _ (by have := HSW.out; have := HS0.out; show _ < W.heap.size; omega)); have z6 := zf 0; have z7 := zf 1; have z8 := zf 2; clear zf; have hb3 := Lib.hid hb3))
    all_goals go_wp2
    all_goals refine bodyPost_ret (by simp [results, Tryz.results77, go_sem, z3, z4, z5]; try rfl) rfl ?_
    all_goals (
      refine ⟨(((HBW.out.drew.trans (hb3.out.mono (by show w.heap.size ≤ W.heap.size; exact HBW.out.size))).setCell (p := ⟨w.heap.size, 0, none⟩) (Nat.le_refl _) _).setCell (p := ⟨w.heap.size, 1, none⟩) (Nat.le_refl _) _).setCell (p := ⟨w.heap.size, 2, none⟩) (Nat.le_refl _) _, ?_⟩
      exact ⟨_, _, vo, rfl, HTK.out⟩)
  · have hno : takenV 4 xs = none := by
      unfold takenV
      have hl := HX.out.len
      match xs, hl with
      | [], _ => rfl
      | [y], hl => exact absurd hl h1
      | y :: z :: r, _ => rfl
    have HNO := Lib.hid hno
    have h1' : ¬ (n : Int) = 1 := by omega
    clear hno
    have a1 := HG1.out
    have a0 := HG0.out
    have hBW := HB.out
    have hsW := Nat.le_refl W0.heap.size
    have hTW := tabs_below HT.out hBW
    go_enter Tryz.func77, Tryz.ntmps77
    go_wp2_with fail
    rw [← HW0.out]
    have hcells : ∀ X : World, X.heap[w.heap.size + 1]? = W0.heap[w.heap.size + 1]? → X.heap[w.heap.size]? = W0.heap[w.heap.size]? → (X.cell? ⟨w.heap.size + 1, 0, none⟩ = some (.int .i64 4) ∧ X.cell? ⟨w.heap.size + 1, 1, none⟩ = some (.int .i64 (0)) ∧ X.cell? ⟨w.heap.size + 1, 2, none⟩ = some (.string (⟨#[]⟩))) ∧ (X.cell? ⟨w.heap.size, 0, none⟩ = some (.int .i64 0) ∧ X.cell? ⟨w.heap.size, 1, none⟩ = some (.int .i64 0) ∧ X.cell? ⟨w.heap.size, 2, none⟩ = some (.string ⟨#[]⟩)) ∧ (∀ i, X.frozen? ⟨w.heap.size, i, none⟩ = false) := fun X h1 h0 => by
      rw [a1] at h1
      rw [a0] at h0
      refine ⟨⟨?_, ?_, ?_⟩, ⟨?_, ?_, ?_⟩, fun i => Lib.frozen_of_heap h0 _⟩
      · rw [cell_of_row _ _ _ _ _ _ h1]; rfl
      · rw [cell_of_row _ _ _ _ _ _ h1]; rfl
      · rw [cell_of_row _ _ _ _ _ _ h1]; rfl
      · rw [cell_of_row _ _ _ _ _ _ h0]; rfl
      · rw [cell_of_row _ _ _ _ _ _ h0]; rfl
      · rw [cell_of_row _ _ _ _ _ _ h0]; rfl
    obtain ⟨⟨x0, x1, x2⟩, ⟨y0, y1, y2⟩, yf⟩ := hcells W0 rfl rfl
    have y3 := yf 0
    have y4 := yf 1
    have y5 := yf 2
    have HCELLS := Lib.hid hcells
    have HBW := Lib.hid hBW
    have HSW := Lib.hid hsW
    clear hcells yf hBW hsW hTW a0 a1
    go_region_law (fail)
    all_goals go_wp2
    all_goals refine bodyPost_ret (by simp [results, Tryz.results77, go_sem, y0, y1, y2]; try rfl) rfl ?_
    all_goals exact ⟨((HBW.out.drew.setCell (p := ⟨w.heap.size, 0, none⟩) (Nat.le_refl _) _).setCell (p := ⟨w.heap.size, 1, none⟩) (Nat.le_refl _) _).setCell (p := ⟨w.heap.size, 2, none⟩) (Nat.le_refl _) _, _, _, false, rfl, by rw [HNO.out]; rfl⟩
end Go.Proofs.YtonghiaocpenaaaGreatDoor
namespace Go.Proofs.YtonghiaocpenaaaGreatDoor
open Go.RowKit

set_option maxHeartbeats 1000000 in
set_option maxRecDepth 100000 in
theorem taken1_calls (b off n cap : Nat) (xs : List Int) (w : World) (hx : RdB w (some ⟨b, off, none⟩) n xs) (hbl : b < w.heap.size) (hb : Bytes xs) (hn : n ≤ 1000000) (hcap : n ≤ cap) (hT : Lib.Utf8Tabs 0 1 w) :
    Calls Tryz.prog 77 #[.int .i64 1, .slice (some ⟨b, off, none⟩) n cap] w (TakenOut 1 xs w) := by
  obtain ⟨hB, hr, hv⟩ := two_boxes w #[.int .i64 0, .int .i64 0, .string ⟨#[]⟩] #[.int .i64 1, .int .i64 0, .string ⟨#[]⟩] 23 23
  obtain ⟨W0, hW0⟩ : ∃ W0, W0 = (w.alloc (.cells #[.int .i64 0, .int .i64 0, .string ⟨#[]⟩] 23)).alloc (.cells #[.int .i64 1, .int .i64 0, .string ⟨#[]⟩] 23) := ⟨_, rfl⟩
  have hg0 : W0.heap[w.heap.size]? = some (.cells #[.int .i64 0, .int .i64 0, .string ⟨#[]⟩] 23) := by
    rw [hW0, heap_alloc_old _ _ (by simp), heap_alloc_new]
  have hg1 : W0.heap[w.heap.size + 1]? = some (.cells #[.int .i64 1, .int .i64 0, .string ⟨#[]⟩] 23) := by
    have := heap_alloc_new (w.alloc (.cells #[.int .i64 0, .int .i64 0, .string ⟨#[]⟩] 23)) (.cells #[.int .i64 1, .int .i64 0, .string ⟨#[]⟩] 23)
    rw [hW0]
    simpa using this
  rw [← hW0] at hB
  clear hr hv
  have HT := Lib.hid hT
  have HX := Lib.hid (hx.below hB)
  have HBY := Lib.hid hb
  have hbl0 : b < W0.heap.size := Nat.lt_of_lt_of_le hbl hB.size
  have hs0 : W0.heap.size = w.heap.size + 2 := by rw [hW0]; simp
  have HS0 := Lib.hid hs0
  have HB := Lib.hid hB
  have HG0 := Lib.hid hg0
  have HG1 := Lib.hid hg1
  have HW0 := Lib.hid hW0
  clear hx hb hT hB hs0 hg0 hg1 hW0
  go_enter Tryz.func77, Tryz.ntmps77
  go_wp2_with fail
  rw [← HW0.out]
  go_loopg [8, 24] n (fun gk uv iv wr => ∃ (j : Nat) (u : Int), uv = .int .u64 u ∧ iv = .int .i64 j ∧ j ≤ n ∧ gk = n - j ∧ 0 ≤ u ∧ u < 18446744073709551616 ∧ Hid (u = be64 (xs.take j)) ∧ wr = W0)
  case atStart => exact ⟨0, 0, rfl, rfl, by omega, rfl, by omega, by omega, rfl, rfl⟩
  case round =>
    obtain ⟨j, u, rfl, rfl, hj, rfl, hu0, hu1, hu, rfl⟩ := hrel
    by_cases hlt : j < n
    · obtain ⟨x, hxx⟩ : ∃ x, xs[j]? = some x := ⟨_, List.getElem?_eq_getElem (by rw [← HX.out.len]; exact hlt)⟩
      have hcell := rdb_cell HX.out hxx
      obtain ⟨q0, q1⟩ := HBY.out.at hxx
      have HXX := Lib.hid hxx
      have hor := Lib.hid (or_low' u x q0 q1)
      have hj1 : (j : Int) < (n : Int) := by omega
      clear hxx
      go_wp2_with fail
      go_roundg (n - (j + 1))
      case measure => omega
      case rel => exact ⟨j + 1, u * 256 % 18446744073709551616 + x, by rw [hor.out], by go_num, by omega, rfl, by omega, by omega, by unfold Hid; rw [take_snoc1 HXX.out, be64_snoc, hu.out], rfl⟩
    · obtain rfl : j = n := by omega
      have hfull : u = be64 xs := by rw [hu.out, List.take_of_length_le (by rw [← HX.out.len]; omega)]
      have HF := Lib.hid hfull
      have g0 := HG0.out
      have g1 := HG1.out
      have hb2s := Nat.le_refl wr.heap.size
      have hBw2 := HB.out
      obtain ⟨z, hz⟩ : ∃ z, bits .xor .u64 u 9223372036854775808 = z := ⟨_, rfl⟩
      obtain ⟨nn, hnn⟩ : ∃ nn, wrap64 z = nn := ⟨_, rfl⟩
      have hNI : isInt nn := by rw [← hnn]; exact wrap_isInt _
      have hSs : (⟨#[]⟩ : ByteArray).size ≤ 140737488351232 := by decide
      have hwe : nn = IntKind.i64.wrap (bits .xor .u64 (be64 xs) 9223372036854775808) := by rw [← hfull, hz, ← hnn]; exact wrap_two _
      have hlen := HX.out.len
      clear hfull hu
      by_cases h8 : j = 8
      · have htk : takenV 1 xs = if valOk 1 nn ⟨#[]⟩ = true then some (nn, ⟨#[]⟩) else none := by
          have e : valOk 1 nn ⟨#[]⟩ = true := by unfold valOk; simp; rfl
          rw [if_pos e]
          unfold takenV
          rw [if_pos rfl, if_pos (hlen.symm.trans h8), hwe]
        subst h8
        clear hwe hlen
        have v1 : wr.cell? ⟨w.heap.size + 1, 1, none⟩ = some (.int .i64 0) := by rw [cell_of_row _ _ _ _ _ _ g1]; rfl
        have f1 : wr.frozen? ⟨w.heap.size + 1, 1, none⟩ = false := Lib.frozen_of_heap g1 _
        have a1 : (wr.setCell ⟨w.heap.size + 1, 1, none⟩ (.int .i64 nn)).heap[w.heap.size + 1]? = some (.cells #[.int .i64 1, .int .i64 (nn), .string (⟨#[]⟩)] 23) := by
          have := Lib.heap_setCell_same (i := 1) g1 (.int .i64 nn)
          simpa using this
        have a0 : (wr.setCell ⟨w.heap.size + 1, 1, none⟩ (.int .i64 nn)).heap[w.heap.size]? = some (.cells #[.int .i64 0, .int .i64 0, .string ⟨#[]⟩] 23) := by
          rw [Below.heap_setCell _ _ _ _ (by simp)]; exact g0
        have hBW : Below w.heap.size w (wr.setCell ⟨w.heap.size + 1, 1, none⟩ (.int .i64 nn)) := hBw2.setCell (p := ⟨w.heap.size + 1, 1, none⟩) (by show w.heap.size ≤ w.heap.size + 1; omega) _
        have hsW : wr.heap.size ≤ (wr.setCell ⟨w.heap.size + 1, 1, none⟩ (.int .i64 nn)).heap.size := by rw [World.size_setCell]; exact hb2s
        have hTW : Lib.Utf8Tabs 0 1 (wr.setCell ⟨w.heap.size + 1, 1, none⟩ (.int .i64 nn)) := tabs_below HT.out hBW
        clear g0 g1
        go_wp2_with fail
        generalize wr.setCell ⟨w.heap.size + 1, 1, none⟩ (.int .i64 nn) = W at *
        have hv := vright_calls 1 nn ⟨#[]⟩ W.drew hNI hSs hTW
        obtain ⟨vo, hvo⟩ : ∃ vo, vo = valOk 1 nn ⟨#[]⟩ := ⟨_, rfl⟩
        rw [← hvo] at hv htk
        have HV := Lib.hid hv
        have HTK := Lib.hid htk
        clear hv htk hvo
        have hcells : ∀ X : World, X.heap[w.heap.size + 1]? = W.heap[w.heap.size + 1]? → X.heap[w.heap.size]? = W.heap[w.heap.size]? → (X.cell? ⟨w.heap.size + 1, 0, none⟩ = some (.int .i64 1) ∧ X.cell? ⟨w.heap.size + 1, 1, none⟩ = some (.int .i64 (nn)) ∧ X.cell? ⟨w.heap.size + 1, 2, none⟩ = some (.string (⟨#[]⟩))) ∧ (X.cell? ⟨w.heap.size, 0, none⟩ = some (.int .i64 0) ∧ X.cell? ⟨w.heap.size, 1, none⟩ = some (.int .i64 0) ∧ X.cell? ⟨w.heap.size, 2, none⟩ = some (.string ⟨#[]⟩)) ∧ (∀ i, X.frozen? ⟨w.heap.size, i, none⟩ = false) := fun X h1 h0 => by
          rw [a1] at h1
          rw [a0] at h0
          refine ⟨⟨?_, ?_, ?_⟩, ⟨?_, ?_, ?_⟩, fun i => Lib.frozen_of_heap h0 _⟩
          · rw [cell_of_row _ _ _ _ _ _ h1]; rfl
          · rw [cell_of_row _ _ _ _ _ _ h1]; rfl
          · rw [cell_of_row _ _ _ _ _ _ h1]; rfl
          · rw [cell_of_row _ _ _ _ _ _ h0]; rfl
          · rw [cell_of_row _ _ _ _ _ _ h0]; rfl
          · rw [cell_of_row _ _ _ _ _ _ h0]; rfl
        obtain ⟨⟨x0, x1, x2⟩, ⟨y0, y1, y2⟩, yf⟩ := hcells W rfl rfl
        have y3 := yf 0
        have y4 := yf 1
        have y5 := yf 2
        have HCELLS := Lib.hid hcells
        have HBW := Lib.hid hBW
        have HSW := Lib.hid hsW
        clear hcells yf hBW hsW hTW a0 a1
        go_region_law (go_simp; go_wp2_with (go_at_call 34; refine HV.out.mono ?_; rintro e w3 ⟨rfl, hb3⟩; obtain ⟨⟨z0, z1, z2⟩, ⟨z3, z4, z5⟩, zf⟩ := HCELLS.out w3 (hb3.block _ (by have := HSW.out; have := HS0.out; show _ < W.heap.size; omega)) (hb3.block _ (by have := HSW.out; have := HS0.out; show _ < W.heap.size; omega)); have z6 := zf 0; have z7 := zf 1; have z8 := zf 2; clear zf; have hb3 := Lib.hid hb3))
        all_goals go_wp2
        all_goals refine bodyPost_ret (by simp [results, Tryz.results77, go_sem, z3, z4, z5]; try rfl) rfl ?_
        all_goals (
          refine ⟨(((HBW.out.drew.trans (hb3.out.mono (by show w.heap.size ≤ W.heap.size; exact HBW.out.size))).setCell (p := ⟨w.heap.size, 0, none⟩) (Nat.le_refl _) _).setCell (p := ⟨w.heap.size, 1, none⟩) (Nat.le_refl _) _).setCell (p := ⟨w.heap.size, 2, none⟩) (Nat.le_refl _) _, ?_⟩
          exact ⟨_, _, vo, rfl, HTK.out⟩)
      · have hno : takenV 1 xs = none := by
          unfold takenV
          rw [if_pos rfl, if_neg (by omega)]
        have HNO := Lib.hid hno
        have h8' : ((j : Int) == 8) = false := by rw [beq_eq_false_iff_ne]; omega
        clear hno hwe hlen
        have v1 : wr.cell? ⟨w.heap.size + 1, 1, none⟩ = some (.int .i64 0) := by rw [cell_of_row _ _ _ _ _ _ g1]; rfl
        have f1 : wr.frozen? ⟨w.heap.size + 1, 1, none⟩ = false := Lib.frozen_of_heap g1 _
        have a1 : (wr.setCell ⟨w.heap.size + 1, 1, none⟩ (.int .i64 nn)).heap[w.heap.size + 1]? = some (.cells #[.int .i64 1, .int .i64 (nn), .string (⟨#[]⟩)] 23) := by
          have := Lib.heap_setCell_same (i := 1) g1 (.int .i64 nn)
          simpa using this
        have a0 : (wr.setCell ⟨w.heap.size + 1, 1, none⟩ (.int .i64 nn)).heap[w.heap.size]? = some (.cells #[.int .i64 0, .int .i64 0, .string ⟨#[]⟩] 23) := by
          rw [Below.heap_setCell _ _ _ _ (by simp)]; exact g0
        have hBW : Below w.heap.size w (wr.setCell ⟨w.heap.size + 1, 1, none⟩ (.int .i64 nn)) := hBw2.setCell (p := ⟨w.heap.size + 1, 1, none⟩) (by show w.heap.size ≤ w.heap.size + 1; omega) _
        have hsW : wr.heap.size ≤ (wr.setCell ⟨w.heap.size + 1, 1, none⟩ (.int .i64 nn)).heap.size := by rw [World.size_setCell]; exact hb2s
        have hTW : Lib.Utf8Tabs 0 1 (wr.setCell ⟨w.heap.size + 1, 1, none⟩ (.int .i64 nn)) := tabs_below HT.out hBW
        clear g0 g1
        go_wp2_with fail
        generalize wr.setCell ⟨w.heap.size + 1, 1, none⟩ (.int .i64 nn) = W at *
        have hcells : ∀ X : World, X.heap[w.heap.size + 1]? = W.heap[w.heap.size + 1]? → X.heap[w.heap.size]? = W.heap[w.heap.size]? → (X.cell? ⟨w.heap.size + 1, 0, none⟩ = some (.int .i64 1) ∧ X.cell? ⟨w.heap.size + 1, 1, none⟩ = some (.int .i64 (nn)) ∧ X.cell? ⟨w.heap.size + 1, 2, none⟩ = some (.string (⟨#[]⟩))) ∧ (X.cell? ⟨w.heap.size, 0, none⟩ = some (.int .i64 0) ∧ X.cell? ⟨w.heap.size, 1, none⟩ = some (.int .i64 0) ∧ X.cell? ⟨w.heap.size, 2, none⟩ = some (.string ⟨#[]⟩)) ∧ (∀ i, X.frozen? ⟨w.heap.size, i, none⟩ = false) := fun X h1 h0 => by
          rw [a1] at h1
          rw [a0] at h0
          refine ⟨⟨?_, ?_, ?_⟩, ⟨?_, ?_, ?_⟩, fun i => Lib.frozen_of_heap h0 _⟩
          · rw [cell_of_row _ _ _ _ _ _ h1]; rfl
          · rw [cell_of_row _ _ _ _ _ _ h1]; rfl
          · rw [cell_of_row _ _ _ _ _ _ h1]; rfl
          · rw [cell_of_row _ _ _ _ _ _ h0]; rfl
          · rw [cell_of_row _ _ _ _ _ _ h0]; rfl
          · rw [cell_of_row _ _ _ _ _ _ h0]; rfl
        obtain ⟨⟨x0, x1, x2⟩, ⟨y0, y1, y2⟩, yf⟩ := hcells W rfl rfl
        have y3 := yf 0
        have y4 := yf 1
        have y5 := yf 2
        have HCELLS := Lib.hid hcells
        have HBW := Lib.hid hBW
        have HSW := Lib.hid hsW
        clear hcells yf hBW hsW hTW a0 a1
        go_region_law (fail)
        all_goals go_wp2
        all_goals refine bodyPost_ret (by simp [results, Tryz.results77, go_sem, y0, y1, y2]; try rfl) rfl ?_
        all_goals exact ⟨((HBW.out.drew.setCell (p := ⟨w.heap.size, 0, none⟩) (Nat.le_refl _) _).setCell (p := ⟨w.heap.size, 1, none⟩) (Nat.le_refl _) _).setCell (p := ⟨w.heap.size, 2, none⟩) (Nat.le_refl _) _, _, _, false, rfl, by rw [HNO.out]; rfl⟩
end Go.Proofs.YtonghiaocpenaaaGreatDoor
namespace Go.Proofs.YtonghiaocpenaaaGreatDoor
open Go.RowKit

set_option maxHeartbeats 1000000 in
set_option maxRecDepth 100000 in
theorem takenE_calls (b off n cap : Nat) (k : Int) (xs : List Int) (w : World) (hx : RdB w (some ⟨b, off, none⟩) n xs) (hbl : b < w.heap.size) (hb : Bytes xs) (hn : n ≤ 1000000) (hcap : n ≤ cap) (hcm : cap ≤ maxLen) (hT : Lib.Utf8Tabs 0 1 w) (k1 : k ≠ 1) (k5 : k ≠ 5) (k4 : k ≠ 4) :
    Calls Tryz.prog 77 #[.int .i64 k, .slice (some ⟨b, off, none⟩) n cap] w (TakenOut k xs w) := by
  obtain ⟨hB, hr, hv⟩ := two_boxes w #[.int .i64 0, .int .i64 0, .string ⟨#[]⟩] #[.int .i64 k, .int .i64 0, .string ⟨#[]⟩] 23 23
  obtain ⟨W0, hW0⟩ : ∃ W0, W0 = (w.alloc (.cells #[.int .i64 0, .int .i64 0, .string ⟨#[]⟩] 23)).alloc (.cells #[.int .i64 k, .int .i64 0, .string ⟨#[]⟩] 23) := ⟨_, rfl⟩
  have hg0 : W0.heap[w.heap.size]? = some (.cells #[.int .i64 0, .int .i64 0, .string ⟨#[]⟩] 23) := by
    rw [hW0, heap_alloc_old _ _ (by simp), heap_alloc_new]
  have hg1 : W0.heap[w.heap.size + 1]? = some (.cells #[.int .i64 k, .int .i64 0, .string ⟨#[]⟩] 23) := by
    have := heap_alloc_new (w.alloc (.cells #[.int .i64 0, .int .i64 0, .string ⟨#[]⟩] 23)) (.cells #[.int .i64 k, .int .i64 0, .string ⟨#[]⟩] 23)
    rw [hW0]
    simpa using this
  rw [← hW0] at hB
  clear hr hv
  have HT := Lib.hid hT
  have HX := Lib.hid (hx.below hB)
  have HBY := Lib.hid hb
  have hbl0 : b < W0.heap.size := Nat.lt_of_lt_of_le hbl hB.size
  have hs0 : W0.heap.size = w.heap.size + 2 := by rw [hW0]; simp
  have HS0 := Lib.hid hs0
  have HB := Lib.hid hB
  have HG0 := Lib.hid hg0
  have HG1 := Lib.hid hg1
  have HW0 := Lib.hid hW0
  clear hx hb hT hB hs0 hg0 hg1 hW0
  go_enter Tryz.func77, Tryz.ntmps77
  go_wp2_with fail
  rw [← HW0.out]
  refine (unesc_calls b off n cap xs W0 HX.out hbl0 HBY.out hn hcap hcm).mono ?_
  rintro e w2 ⟨hb2, ⟨t, ht, rfl⟩ | ⟨ht, s, rfl⟩⟩
  · have g0 := (hb2.block _ (by have := HS0.out; omega)).trans HG0.out
    have g1 := (hb2.block _ (by have := HS0.out; omega)).trans HG1.out
    have hb2s := hb2.size
    have hBw2 := HB.out.trans (hb2.mono HB.out.size)
    have hNI : isInt 0 := by unfold isInt; omega
    have hSs : (ofL t).size ≤ 140737488351232 := by
      have := read_len ht
      have h2 : (ofL t).size = t.length := by show (Lib.bytesOf t).toArray.size = _; simp [Lib.bytesOf]
      have h3 := HX.out.len
      rw [h2]
      omega
    have htk : takenV k xs = if valOk k 0 (ofL t) = true then some (0, ofL t) else none := by
      unfold takenV
      rw [if_neg k1, if_neg k5, if_neg k4, ht]
    have v1 : w2.cell? ⟨w.heap.size + 1, 2, none⟩ = some (.string ⟨#[]⟩) := by rw [cell_of_row _ _ _ _ _ _ g1]; rfl
    have f1 : w2.frozen? ⟨w.heap.size + 1, 2, none⟩ = false := Lib.frozen_of_heap g1 _
    have a1 : (w2.setCell ⟨w.heap.size + 1, 2, none⟩ (.string (ofL t))).heap[w.heap.size + 1]? = some (.cells #[.int .i64 k, .int .i64 (0), .string (ofL t)] 23) := by
      have := Lib.heap_setCell_same (i := 2) g1 (.string (ofL t))
      simpa using this
    have a0 : (w2.setCell ⟨w.heap.size + 1, 2, none⟩ (.string (ofL t))).heap[w.heap.size]? = some (.cells #[.int .i64 0, .int .i64 0, .string ⟨#[]⟩] 23) := by
      rw [Below.heap_setCell _ _ _ _ (by simp)]; exact g0
    have hBW : Below w.heap.size w (w2.setCell ⟨w.heap.size + 1, 2, none⟩ (.string (ofL t))) := hBw2.setCell (p := ⟨w.heap.size + 1, 2, none⟩) (by show w.heap.size ≤ w.heap.size + 1; omega) _
    have hsW : W0.heap.size ≤ (w2.setCell ⟨w.heap.size + 1, 2, none⟩ (.string (ofL t))).heap.size := by rw [World.size_setCell]; exact hb2s
    have hTW : Lib.Utf8Tabs 0 1 (w2.setCell ⟨w.heap.size + 1, 2, none⟩ (.string (ofL t))) := tabs_below HT.out hBW
    clear g0 g1
    go_wp2_with fail
    generalize w2.setCell ⟨w.heap.size + 1, 2, none⟩ (.string (ofL t)) = W at *
    generalize ofL t = tx at *
    have hv := vright_calls k 0 tx W.drew hNI hSs hTW
    obtain ⟨vo, hvo⟩ : ∃ vo, vo = valOk k 0 tx := ⟨_, rfl⟩
    rw [← hvo] at hv htk
    have HV := Lib.hid hv
    have HTK := Lib.hid htk
    clear hv htk hvo
    have hcells : ∀ X : World, X.heap[w.heap.size + 1]? = W.heap[w.heap.size + 1]? → X.heap[w.heap.size]? = W.heap[w.heap.size]? → (X.cell? ⟨w.heap.size + 1, 0, none⟩ = some (.int .i64 k) ∧ X.cell? ⟨w.heap.size + 1, 1, none⟩ = some (.int .i64 (0)) ∧ X.cell? ⟨w.heap.size + 1, 2, none⟩ = some (.string (tx))) ∧ (X.cell? ⟨w.heap.size, 0, none⟩ = some (.int .i64 0) ∧ X.cell? ⟨w.heap.size, 1, none⟩ = some (.int .i64 0) ∧ X.cell? ⟨w.heap.size, 2, none⟩ = some (.string ⟨#[]⟩)) ∧ (∀ i, X.frozen? ⟨w.heap.size, i, none⟩ = false) := fun X h1 h0 => by
      rw [a1] at h1
      rw [a0] at h0
      refine ⟨⟨?_, ?_, ?_⟩, ⟨?_, ?_, ?_⟩, fun i => Lib.frozen_of_heap h0 _⟩
      · rw [cell_of_row _ _ _ _ _ _ h1]; rfl
      · rw [cell_of_row _ _ _ _ _ _ h1]; rfl
      · rw [cell_of_row _ _ _ _ _ _ h1]; rfl
      · rw [cell_of_row _ _ _ _ _ _ h0]; rfl
      · rw [cell_of_row _ _ _ _ _ _ h0]; rfl
      · rw [cell_of_row _ _ _ _ _ _ h0]; rfl
    obtain ⟨⟨x0, x1, x2⟩, ⟨y0, y1, y2⟩, yf⟩ := hcells W rfl rfl
    have y3 := yf 0
    have y4 := yf 1
    have y5 := yf 2
    have HCELLS := Lib.hid hcells
    have HBW := Lib.hid hBW
    have HSW := Lib.hid hsW
    clear hcells yf hBW hsW hTW a0 a1
    go_region_law (go_simp; go_wp2_with (go_at_call 34; refine HV.out.mono ?_; rintro e w3 ⟨rfl, hb3⟩; obtain ⟨⟨z0, z1, z2⟩, ⟨z3, z4, z5⟩, zf⟩ := HCELLS.out w3 (hb3.block _ (by have := HSW.out; have := HS0.out; show _ < W.heap.size; omega)) (hb3.block _ (by have := HSW.out; have := HS0.out; show _ < W.heap.size; omega)); have z6 := zf 0; have z7 := zf 1; have z8 := zf 2; clear zf; have hb3 := Lib.hid hb3))
    all_goals go_wp2
    all_goals refine bodyPost_ret (by simp [results, Tryz.results77, go_sem, z3, z4, z5]; try rfl) rfl ?_
    all_goals (
      refine ⟨(((HBW.out.drew.trans (hb3.out.mono (by show w.heap.size ≤ W.heap.size; exact HBW.out.size))).setCell (p := ⟨w.heap.size, 0, none⟩) (Nat.le_refl _) _).setCell (p := ⟨w.heap.size, 1, none⟩) (Nat.le_refl _) _).setCell (p := ⟨w.heap.size, 2, none⟩) (Nat.le_refl _) _, ?_⟩
      exact ⟨_, _, vo, rfl, HTK.out⟩)
  · have g0 := (hb2.block _ (by have := HS0.out; omega)).trans HG0.out
    have g1 := (hb2.block _ (by have := HS0.out; omega)).trans HG1.out
    have hb2s := hb2.size
    have hBw2 := HB.out.trans (hb2.mono HB.out.size)
    have hno : takenV k xs = none := by
      unfold takenV
      rw [if_neg k1, if_neg k5, if_neg k4]
      cases hr : readV [] xs with
      | none => rfl
      | some r =>
        obtain ⟨o, rest⟩ := r
        cases o with
        | none => rfl
        | some t =>
          cases rest with
          | nil => exact absurd hr (ht t)
          | cons y ys => rfl
    have HNO := Lib.hid hno
    clear hno
    have v1 : w2.cell? ⟨w.heap.size + 1, 2, none⟩ = some (.string ⟨#[]⟩) := by rw [cell_of_row _ _ _ _ _ _ g1]; rfl
    have f1 : w2.frozen? ⟨w.heap.size + 1, 2, none⟩ = false := Lib.frozen_of_heap g1 _
    have a1 : (w2.setCell ⟨w.heap.size + 1, 2, none⟩ (.string s)).heap[w.heap.size + 1]? = some (.cells #[.int .i64 k, .int .i64 (0), .string (s)] 23) := by
      have := Lib.heap_setCell_same (i := 2) g1 (.string s)
      simpa using this
    have a0 : (w2.setCell ⟨w.heap.size + 1, 2, none⟩ (.string s)).heap[w.heap.size]? = some (.cells #[.int .i64 0, .int .i64 0, .string ⟨#[]⟩] 23) := by
      rw [Below.heap_setCell _ _ _ _ (by simp)]; exact g0
    have hBW : Below w.heap.size w (w2.setCell ⟨w.heap.size + 1, 2, none⟩ (.string s)) := hBw2.setCell (p := ⟨w.heap.size + 1, 2, none⟩) (by show w.heap.size ≤ w.heap.size + 1; omega) _
    have hsW : W0.heap.size ≤ (w2.setCell ⟨w.heap.size + 1, 2, none⟩ (.string s)).heap.size := by rw [World.size_setCell]; exact hb2s
    have hTW : Lib.Utf8Tabs 0 1 (w2.setCell ⟨w.heap.size + 1, 2, none⟩ (.string s)) := tabs_below HT.out hBW
    clear g0 g1
    go_wp2_with fail
    generalize w2.setCell ⟨w.heap.size + 1, 2, none⟩ (.string s) = W at *
    have hcells : ∀ X : World, X.heap[w.heap.size + 1]? = W.heap[w.heap.size + 1]? → X.heap[w.heap.size]? = W.heap[w.heap.size]? → (X.cell? ⟨w.heap.size + 1, 0, none⟩ = some (.int .i64 k) ∧ X.cell? ⟨w.heap.size + 1, 1, none⟩ = some (.int .i64 (0)) ∧ X.cell? ⟨w.heap.size + 1, 2, none⟩ = some (.string (s))) ∧ (X.cell? ⟨w.heap.size, 0, none⟩ = some (.int .i64 0) ∧ X.cell? ⟨w.heap.size, 1, none⟩ = some (.int .i64 0) ∧ X.cell? ⟨w.heap.size, 2, none⟩ = some (.string ⟨#[]⟩)) ∧ (∀ i, X.frozen? ⟨w.heap.size, i, none⟩ = false) := fun X h1 h0 => by
      rw [a1] at h1
      rw [a0] at h0
      refine ⟨⟨?_, ?_, ?_⟩, ⟨?_, ?_, ?_⟩, fun i => Lib.frozen_of_heap h0 _⟩
      · rw [cell_of_row _ _ _ _ _ _ h1]; rfl
      · rw [cell_of_row _ _ _ _ _ _ h1]; rfl
      · rw [cell_of_row _ _ _ _ _ _ h1]; rfl
      · rw [cell_of_row _ _ _ _ _ _ h0]; rfl
      · rw [cell_of_row _ _ _ _ _ _ h0]; rfl
      · rw [cell_of_row _ _ _ _ _ _ h0]; rfl
    obtain ⟨⟨x0, x1, x2⟩, ⟨y0, y1, y2⟩, yf⟩ := hcells W rfl rfl
    have y3 := yf 0
    have y4 := yf 1
    have y5 := yf 2
    have HCELLS := Lib.hid hcells
    have HBW := Lib.hid hBW
    have HSW := Lib.hid hsW
    clear hcells yf hBW hsW hTW a0 a1
    go_region_law (fail)
    all_goals go_wp2
    all_goals refine bodyPost_ret (by simp [results, Tryz.results77, go_sem, y0, y1, y2]; try rfl) rfl ?_
    all_goals exact ⟨((HBW.out.drew.setCell (p := ⟨w.heap.size, 0, none⟩) (Nat.le_refl _) _).setCell (p := ⟨w.heap.size, 1, none⟩) (Nat.le_refl _) _).setCell (p := ⟨w.heap.size, 2, none⟩) (Nat.le_refl _) _, _, _, false, rfl, by rw [HNO.out]; rfl⟩
end Go.Proofs.YtonghiaocpenaaaGreatDoor
namespace Go.Proofs.YtonghiaocpenaaaGreatDoor
open Go.RowKit

theorem taken_calls (b off n cap : Nat) (k : Int) (xs : List Int) (w : World) (hx : RdB w (some ⟨b, off, none⟩) n xs) (hbl : b < w.heap.size) (hb : Bytes xs) (hn : n ≤ 1000000) (hcap : n ≤ cap) (hcm : cap ≤ maxLen) (hT : Lib.Utf8Tabs 0 1 w) :
    Calls Tryz.prog 77 #[.int .i64 k, .slice (some ⟨b, off, none⟩) n cap] w (TakenOut k xs w) := by
  by_cases k5 : k = 5
  · subst k5; exact taken5_calls b off n cap xs w hx hbl hb hT
  by_cases k4 : k = 4
  · subst k4; exact taken4_calls b off n cap xs w hx hbl hb hn hcap hT
  by_cases k1 : k = 1
  · subst k1; exact taken1_calls b off n cap xs w hx hbl hb hn hcap hT
  exact takenE_calls b off n cap k xs w hx hbl hb hn hcap hcm hT k1 k5 k4
end Go.Proofs.YtonghiaocpenaaaGreatDoor
