/-
  val.taken at a float.
-/
import Derived.Test.YtonghiaocpenaaaDoorKTakenV
namespace Go.Proofs.YtonghiaocpenaaaDoor
open Go.RowKit

set_option maxHeartbeats 1000000 in
set_option maxRecDepth 100000 in
theorem taken5_calls (b off n cap : Nat) (xs : List Int) (w : World) (hx : RdB w (some ⟨b, off, none⟩) n xs) (hbl : b < w.heap.size) (hb : Bytes xs) (hT : Lib.Utf8Tabs 0 1 w) :
    Calls Tryd.prog 63 #[.int .i64 5, .slice (some ⟨b, off, none⟩) n cap] w (TakenOut 5 xs w) := by
  obtain ⟨hB, hr, hv⟩ := two_boxes w #[.int .i64 0, .int .i64 0, .string ⟨#[]⟩] #[.int .i64 5, .int .i64 0, .string ⟨#[]⟩] 23 23
  obtain ⟨W0, hW0⟩ : ∃ W0, W0 = (w.alloc (.cells #[.int .i64 0, .int .i64 0, .string ⟨#[]⟩] 23)).alloc (.cells #[.int .i64 5, .int .i64 0, .string ⟨#[]⟩] 23) := ⟨_, rfl⟩
  have hg0 : W0.heap[w.heap.size]? = some (.cells #[.int .i64 0, .int .i64 0, .string ⟨#[]⟩] 23) := by
    rw [hW0, heap_alloc_old _ _ (by simp), heap_alloc_new]
  have hg1 : W0.heap[w.heap.size + 1]? = some (.cells #[.int .i64 5, .int .i64 0, .string ⟨#[]⟩] 23) := by
    have := heap_alloc_new (w.alloc (.cells #[.int .i64 0, .int .i64 0, .string ⟨#[]⟩] 23)) (.cells #[.int .i64 5, .int .i64 0, .string ⟨#[]⟩] 23)
    rw [hW0]
    simpa using this
  rw [← hW0] at hB
  clear hr hv
  have HT := Lib.hid hT
  have HX := Lib.hid (hx.below hB)
  have HBY := Lib.hid hb
  have hbl0 : b < W0.heap.size := Nat.lt_of_lt_of_le hbl hB.size
  have hs0 : W0.heap.size = w.heap.size + 2 := by rw [hW0]; simp
  have HS0 := Lib.hid hs0
  have HB := Lib.hid hB
  have HG0 := Lib.hid hg0
  have HG1 := Lib.hid hg1
  have HW0 := Lib.hid hW0
  clear hx hb hT hB hs0 hg0 hg1 hW0
  go_enter Tryd.func63, Tryd.ntmps63
  go_wp2_with fail
  rw [← HW0.out]
  refine (from_calls b off n cap xs W0 HX.out HBY.out).mono ?_
  rintro e w2 ⟨hb2, ⟨m, hm, rfl⟩ | ⟨hm, rfl⟩⟩
  · have g0 := (hb2.block _ (by have := HS0.out; omega)).trans HG0.out
    have g1 := (hb2.block _ (by have := HS0.out; omega)).trans HG1.out
    have hb2s := hb2.size
    have hBw2 := HB.out.trans (hb2.mono HB.out.size)
    have hmf : floatOk m = true ∧ isInt m := by
      unfold fromV at hm
      split at hm
      · rename_i h
        injection hm with hm
        subst hm
        refine ⟨h.2, ?_⟩
        rw [IntKind.wrap_i64]
        unfold isInt
        omega
      · cases hm
    have hNI := hmf.2
    have hSs : (⟨#[]⟩ : ByteArray).size ≤ 140737488351232 := by decide
    have htk : takenV 5 xs = if valOk 5 m ⟨#[]⟩ = true then some (m, ⟨#[]⟩) else none := by
      have e : valOk 5 m ⟨#[]⟩ = true := by unfold valOk; simp [hmf.1]; rfl
      rw [if_pos e]
      unfold takenV
      rw [hm]; rfl
    clear hmf
    have v1 : w2.cell? ⟨w.heap.size + 1, 1, none⟩ = some (.int .i64 0) := by rw [cell_of_row _ _ _ _ _ _ g1]; rfl
    have f1 : w2.frozen? ⟨w.heap.size + 1, 1, none⟩ = false := Lib.frozen_of_heap g1 _
    have a1 : (w2.setCell ⟨w.heap.size + 1, 1, none⟩ (.int .i64 m)).heap[w.heap.size + 1]? = some (.cells #[.int .i64 5, .int .i64 (m), .string (⟨#[]⟩)] 23) := by
      have := Lib.heap_setCell_same (i := 1) g1 (.int .i64 m)
      simpa using this
    have a0 : (w2.setCell ⟨w.heap.size + 1, 1, none⟩ (.int .i64 m)).heap[w.heap.size]? = some (.cells #[.int .i64 0, .int .i64 0, .string ⟨#[]⟩] 23) := by
      rw [Below.heap_setCell _ _ _ _ (by simp)]; exact g0
    have hBW : Below w.heap.size w (w2.setCell ⟨w.heap.size + 1, 1, none⟩ (.int .i64 m)) := hBw2.setCell (p := ⟨w.heap.size + 1, 1, none⟩) (by show w.heap.size ≤ w.heap.size + 1; omega) _
    have hsW : W0.heap.size ≤ (w2.setCell ⟨w.heap.size + 1, 1, none⟩ (.int .i64 m)).heap.size := by rw [World.size_setCell]; exact hb2s
    have hTW : Lib.Utf8Tabs 0 1 (w2.setCell ⟨w.heap.size + 1, 1, none⟩ (.int .i64 m)) := tabs_below HT.out hBW
    clear g0 g1
    go_wp2_with fail
    generalize w2.setCell ⟨w.heap.size + 1, 1, none⟩ (.int .i64 m) = W at *
    have hv := vright_calls 5 m ⟨#[]⟩ W.drew hNI hSs hTW
    obtain ⟨vo, hvo⟩ : ∃ vo, vo = valOk 5 m ⟨#[]⟩ := ⟨_, rfl⟩
    rw [← hvo] at hv htk
    have HV := Lib.hid hv
    have HTK := Lib.hid htk
    clear hv htk hvo
    have hcells : ∀ X : World, X.heap[w.heap.size + 1]? = W.heap[w.heap.size + 1]? → X.heap[w.heap.size]? = W.heap[w.heap.size]? → (X.cell? ⟨w.heap.size + 1, 0, none⟩ = some (.int .i64 5) ∧ X.cell? ⟨w.heap.size + 1, 1, none⟩ = some (.int .i64 (m)) ∧ X.cell? ⟨w.heap.size + 1, 2, none⟩ = some (.string (⟨#[]⟩))) ∧ (X.cell? ⟨w.heap.size, 0, none⟩ = some (.int .i64 0) ∧ X.cell? ⟨w.heap.size, 1, none⟩ = some (.int .i64 0) ∧ X.cell? ⟨w.heap.size, 2, none⟩ = some (.string ⟨#[]⟩)) ∧ (∀ i, X.frozen? ⟨w.heap.size, i, none⟩ = false) := fun X h1 h0 => by
      rw [a1] at h1
      rw [a0] at h0
      refine ⟨⟨?_, ?_, ?_⟩, ⟨?_, ?_, ?_⟩, fun i => Lib.frozen_of_heap h0 _⟩
      · rw [cell_of_row _ _ _ _ _ _ h1]; rfl
      · rw [cell_of_row _ _ _ _ _ _ h1]; rfl
      · rw [cell_of_row _ _ _ _ _ _ h1]; rfl
      · rw [cell_of_row _ _ _ _ _ _ h0]; rfl
      · rw [cell_of_row _ _ _ _ _ _ h0]; rfl
      · rw [cell_of_row _ _ _ _ _ _ h0]; rfl
    obtain ⟨⟨x0, x1, x2⟩, ⟨y0, y1, y2⟩, yf⟩ := hcells W rfl rfl
    have y3 := yf 0
    have y4 := yf 1
    have y5 := yf 2
    have HCELLS := Lib.hid hcells
    have HBW := Lib.hid hBW
    have HSW := Lib.hid hsW
    clear hcells yf hBW hsW hTW a0 a1
    go_region_law (go_simp; go_wp2_with (go_at_call 25; refine HV.out.mono ?_; rintro e w3 ⟨rfl, hb3⟩; obtain ⟨⟨z0, z1, z2⟩, ⟨z3, z4, z5⟩, zf⟩ := HCELLS.out w3 (hb3.block _ (by have := HSW.out; have := HS0.out; show _ < W.heap.size; omega)) (hb3.block _ (by have := HSW.out; have := HS0.out; show _ < W.heap.size; omega)); have z6 := zf 0; have z7 := zf 1; have z8 := zf 2; clear zf; have hb3 := Lib.hid hb3))
    all_goals go_wp2
    all_goals refine bodyPost_ret (by simp [results, Tryd.results63, go_sem, z3, z4, z5]; try rfl) rfl ?_
    all_goals (
      refine ⟨(((HBW.out.drew.trans (hb3.out.mono (by show w.heap.size ≤ W.heap.size; exact HBW.out.size))).setCell (p := ⟨w.heap.size, 0, none⟩) (Nat.le_refl _) _).setCell (p := ⟨w.heap.size, 1, none⟩) (Nat.le_refl _) _).setCell (p := ⟨w.heap.size, 2, none⟩) (Nat.le_refl _) _, ?_⟩
      exact ⟨_, _, vo, rfl, HTK.out⟩)
  · have g0 := (hb2.block _ (by have := HS0.out; omega)).trans HG0.out
    have g1 := (hb2.block _ (by have := HS0.out; omega)).trans HG1.out
    have hb2s := hb2.size
    have hBw2 := HB.out.trans (hb2.mono HB.out.size)
    have hno : takenV 5 xs = none := by unfold takenV; rw [hm]; rfl
    have HNO := Lib.hid hno
    clear hno
    have v1 : w2.cell? ⟨w.heap.size + 1, 1, none⟩ = some (.int .i64 0) := by rw [cell_of_row _ _ _ _ _ _ g1]; rfl
    have f1 : w2.frozen? ⟨w.heap.size + 1, 1, none⟩ = false := Lib.frozen_of_heap g1 _
    have a1 : (w2.setCell ⟨w.heap.size + 1, 1, none⟩ (.int .i64 0)).heap[w.heap.size + 1]? = some (.cells #[.int .i64 5, .int .i64 (0), .string (⟨#[]⟩)] 23) := by
      have := Lib.heap_setCell_same (i := 1) g1 (.int .i64 0)
      simpa using this
    have a0 : (w2.setCell ⟨w.heap.size + 1, 1, none⟩ (.int .i64 0)).heap[w.heap.size]? = some (.cells #[.int .i64 0, .int .i64 0, .string ⟨#[]⟩] 23) := by
      rw [Below.heap_setCell _ _ _ _ (by simp)]; exact g0
    have hBW : Below w.heap.size w (w2.setCell ⟨w.heap.size + 1, 1, none⟩ (.int .i64 0)) := hBw2.setCell (p := ⟨w.heap.size + 1, 1, none⟩) (by show w.heap.size ≤ w.heap.size + 1; omega) _
    have hsW : W0.heap.size ≤ (w2.setCell ⟨w.heap.size + 1, 1, none⟩ (.int .i64 0)).heap.size := by rw [World.size_setCell]; exact hb2s
    have hTW : Lib.Utf8Tabs 0 1 (w2.setCell ⟨w.heap.size + 1, 1, none⟩ (.int .i64 0)) := tabs_below HT.out hBW
    clear g0 g1
    go_wp2_with fail
    generalize w2.setCell ⟨w.heap.size + 1, 1, none⟩ (.int .i64 0) = W at *
    have hcells : ∀ X : World, X.heap[w.heap.size + 1]? = W.heap[w.heap.size + 1]? → X.heap[w.heap.size]? = W.heap[w.heap.size]? → (X.cell? ⟨w.heap.size + 1, 0, none⟩ = some (.int .i64 5) ∧ X.cell? ⟨w.heap.size + 1, 1, none⟩ = some (.int .i64 (0)) ∧ X.cell? ⟨w.heap.size + 1, 2, none⟩ = some (.string (⟨#[]⟩))) ∧ (X.cell? ⟨w.heap.size, 0, none⟩ = some (.int .i64 0) ∧ X.cell? ⟨w.heap.size, 1, none⟩ = some (.int .i64 0) ∧ X.cell? ⟨w.heap.size, 2, none⟩ = some (.string ⟨#[]⟩)) ∧ (∀ i, X.frozen? ⟨w.heap.size, i, none⟩ = false) := fun X h1 h0 => by
      rw [a1] at h1
      rw [a0] at h0
      refine ⟨⟨?_, ?_, ?_⟩, ⟨?_, ?_, ?_⟩, fun i => Lib.frozen_of_heap h0 _⟩
      · rw [cell_of_row _ _ _ _ _ _ h1]; rfl
      · rw [cell_of_row _ _ _ _ _ _ h1]; rfl
      · rw [cell_of_row _ _ _ _ _ _ h1]; rfl
      · rw [cell_of_row _ _ _ _ _ _ h0]; rfl
      · rw [cell_of_row _ _ _ _ _ _ h0]; rfl
      · rw [cell_of_row _ _ _ _ _ _ h0]; rfl
    obtain ⟨⟨x0, x1, x2⟩, ⟨y0, y1, y2⟩, yf⟩ := hcells W rfl rfl
    have y3 := yf 0
    have y4 := yf 1
    have y5 := yf 2
    have HCELLS := Lib.hid hcells
    have HBW := Lib.hid hBW
    have HSW := Lib.hid hsW
    clear hcells yf hBW hsW hTW a0 a1
    go_region_law (fail)
    all_goals go_wp2
    all_goals refine bodyPost_ret (by simp [results, Tryd.results63, go_sem, y0, y1, y2]; try rfl) rfl ?_
    all_goals exact ⟨((HBW.out.drew.setCell (p := ⟨w.heap.size, 0, none⟩) (Nat.le_refl _) _).setCell (p := ⟨w.heap.size, 1, none⟩) (Nat.le_refl _) _).setCell (p := ⟨w.heap.size, 2, none⟩) (Nat.le_refl _) _, _, _, false, rfl, by rw [HNO.out]; rfl⟩
end Go.Proofs.YtonghiaocpenaaaDoor
