/-
  val.taken at an int.
-/
import Derived.Test.YtonghiaocpenaaaDoorKTakenV
namespace Go.Proofs.YtonghiaocpenaaaDoor
open Go.RowKit

set_option maxHeartbeats 1000000 in
set_option maxRecDepth 100000 in
theorem taken1_calls (b off n cap : Nat) (xs : List Int) (w : World) (hx : RdB w (some ⟨b, off, none⟩) n xs) (hbl : b < w.heap.size) (hb : Bytes xs) (hn : n ≤ 1000000) (hcap : n ≤ cap) (hT : Lib.Utf8Tabs 0 1 w) :
    Calls Tryd.prog 63 #[.int .i64 1, .slice (some ⟨b, off, none⟩) n cap] w (TakenOut 1 xs w) := by
  obtain ⟨hB, hr, hv⟩ := two_boxes w #[.int .i64 0, .int .i64 0, .string ⟨#[]⟩] #[.int .i64 1, .int .i64 0, .string ⟨#[]⟩] 23 23
  obtain ⟨W0, hW0⟩ : ∃ W0, W0 = (w.alloc (.cells #[.int .i64 0, .int .i64 0, .string ⟨#[]⟩] 23)).alloc (.cells #[.int .i64 1, .int .i64 0, .string ⟨#[]⟩] 23) := ⟨_, rfl⟩
  have hg0 : W0.heap[w.heap.size]? = some (.cells #[.int .i64 0, .int .i64 0, .string ⟨#[]⟩] 23) := by
    rw [hW0, heap_alloc_old _ _ (by simp), heap_alloc_new]
  have hg1 : W0.heap[w.heap.size + 1]? = some (.cells #[.int .i64 1, .int .i64 0, .string ⟨#[]⟩] 23) := by
    have := heap_alloc_new (w.alloc (.cells #[.int .i64 0, .int .i64 0, .string ⟨#[]⟩] 23)) (.cells #[.int .i64 1, .int .i64 0, .string ⟨#[]⟩] 23)
    rw [hW0]
    simpa using this
  rw [← hW0] at hB
  clear hr hv
  have HT := Lib.hid hT
  have HX := Lib.hid (hx.below hB)
  have HBY := Lib.hid hb
  have hbl0 : b < W0.heap.size := Nat.lt_of_lt_of_le hbl hB.size
  have hs0 : W0.heap.size = w.heap.size + 2 := by rw [hW0]; simp
  have HS0 := Lib.hid hs0
  have HB := Lib.hid hB
  have HG0 := Lib.hid hg0
  have HG1 := Lib.hid hg1
  have HW0 := Lib.hid hW0
  clear hx hb hT hB hs0 hg0 hg1 hW0
  go_enter Tryd.func63, Tryd.ntmps63
  go_wp2_with fail
  rw [← HW0.out]
  go_loopg [8, 24] n (fun gk uv iv wr => ∃ (j : Nat) (u : Int), uv = .int .u64 u ∧ iv = .int .i64 j ∧ j ≤ n ∧ gk = n - j ∧ 0 ≤ u ∧ u < 18446744073709551616 ∧ Hid (u = be64 (xs.take j)) ∧ wr = W0)
  case atStart => exact ⟨0, 0, rfl, rfl, by omega, rfl, by omega, by omega, rfl, rfl⟩
  case round =>
    obtain ⟨j, u, rfl, rfl, hj, rfl, hu0, hu1, hu, rfl⟩ := hrel
    by_cases hlt : j < n
    · obtain ⟨x, hxx⟩ : ∃ x, xs[j]? = some x := ⟨_, List.getElem?_eq_getElem (by rw [← HX.out.len]; exact hlt)⟩
      have hcell := rdb_cell HX.out hxx
      obtain ⟨q0, q1⟩ := HBY.out.at hxx
      have HXX := Lib.hid hxx
      have hor := Lib.hid (or_low' u x q0 q1)
      have hj1 : (j : Int) < (n : Int) := by omega
      clear hxx
      go_wp2_with fail
      go_roundg (n - (j + 1))
      case measure => omega
      case rel => exact ⟨j + 1, u * 256 % 18446744073709551616 + x, by rw [hor.out], by go_num, by omega, rfl, by omega, by omega, by unfold Hid; rw [take_snoc1 HXX.out, be64_snoc, hu.out], rfl⟩
    · obtain rfl : j = n := by omega
      have hfull : u = be64 xs := by rw [hu.out, List.take_of_length_le (by rw [← HX.out.len]; omega)]
      have HF := Lib.hid hfull
      have g0 := HG0.out
      have g1 := HG1.out
      have hb2s := Nat.le_refl wr.heap.size
      have hBw2 := HB.out
      obtain ⟨z, hz⟩ : ∃ z, bits .xor .u64 u 9223372036854775808 = z := ⟨_, rfl⟩
      obtain ⟨nn, hnn⟩ : ∃ nn, wrap64 z = nn := ⟨_, rfl⟩
      have hNI : isInt nn := by rw [← hnn]; exact wrap_isInt _
      have hSs : (⟨#[]⟩ : ByteArray).size ≤ 140737488351232 := by decide
      have hwe : nn = IntKind.i64.wrap (bits .xor .u64 (be64 xs) 9223372036854775808) := by rw [← hfull, hz, ← hnn]; exact wrap_two _
      have hlen := HX.out.len
      clear hfull hu
      by_cases h8 : j = 8
      · have htk : takenV 1 xs = if valOk 1 nn ⟨#[]⟩ = true then some (nn, ⟨#[]⟩) else none := by
          have e : valOk 1 nn ⟨#[]⟩ = true := by unfold valOk; simp; rfl
          rw [if_pos e]
          unfold takenV
          rw [if_pos rfl, if_pos (hlen.symm.trans h8), hwe]
        subst h8
        clear hwe hlen
        have v1 : wr.cell? ⟨w.heap.size + 1, 1, none⟩ = some (.int .i64 0) := by rw [cell_of_row _ _ _ _ _ _ g1]; rfl
        have f1 : wr.frozen? ⟨w.heap.size + 1, 1, none⟩ = false := Lib.frozen_of_heap g1 _
        have a1 : (wr.setCell ⟨w.heap.size + 1, 1, none⟩ (.int .i64 nn)).heap[w.heap.size + 1]? = some (.cells #[.int .i64 1, .int .i64 (nn), .string (⟨#[]⟩)] 23) := by
          have := Lib.heap_setCell_same (i := 1) g1 (.int .i64 nn)
          simpa using this
        have a0 : (wr.setCell ⟨w.heap.size + 1, 1, none⟩ (.int .i64 nn)).heap[w.heap.size]? = some (.cells #[.int .i64 0, .int .i64 0, .string ⟨#[]⟩] 23) := by
          rw [Below.heap_setCell _ _ _ _ (by simp)]; exact g0
        have hBW : Below w.heap.size w (wr.setCell ⟨w.heap.size + 1, 1, none⟩ (.int .i64 nn)) := hBw2.setCell (p := ⟨w.heap.size + 1, 1, none⟩) (by show w.heap.size ≤ w.heap.size + 1; omega) _
        have hsW : wr.heap.size ≤ (wr.setCell ⟨w.heap.size + 1, 1, none⟩ (.int .i64 nn)).heap.size := by rw [World.size_setCell]; exact hb2s
        have hTW : Lib.Utf8Tabs 0 1 (wr.setCell ⟨w.heap.size + 1, 1, none⟩ (.int .i64 nn)) := tabs_below HT.out hBW
        clear g0 g1
        go_wp2_with fail
        generalize wr.setCell ⟨w.heap.size + 1, 1, none⟩ (.int .i64 nn) = W at *
        have hv := vright_calls 1 nn ⟨#[]⟩ W.drew hNI hSs hTW
        obtain ⟨vo, hvo⟩ : ∃ vo, vo = valOk 1 nn ⟨#[]⟩ := ⟨_, rfl⟩
        rw [← hvo] at hv htk
        have HV := Lib.hid hv
        have HTK := Lib.hid htk
        clear hv htk hvo
        have hcells : ∀ X : World, X.heap[w.heap.size + 1]? = W.heap[w.heap.size + 1]? → X.heap[w.heap.size]? = W.heap[w.heap.size]? → (X.cell? ⟨w.heap.size + 1, 0, none⟩ = some (.int .i64 1) ∧ X.cell? ⟨w.heap.size + 1, 1, none⟩ = some (.int .i64 (nn)) ∧ X.cell? ⟨w.heap.size + 1, 2, none⟩ = some (.string (⟨#[]⟩))) ∧ (X.cell? ⟨w.heap.size, 0, none⟩ = some (.int .i64 0) ∧ X.cell? ⟨w.heap.size, 1, none⟩ = some (.int .i64 0) ∧ X.cell? ⟨w.heap.size, 2, none⟩ = some (.string ⟨#[]⟩)) ∧ (∀ i, X.frozen? ⟨w.heap.size, i, none⟩ = false) := fun X h1 h0 => by
          rw [a1] at h1
          rw [a0] at h0
          refine ⟨⟨?_, ?_, ?_⟩, ⟨?_, ?_, ?_⟩, fun i => Lib.frozen_of_heap h0 _⟩
          · rw [cell_of_row _ _ _ _ _ _ h1]; rfl
          · rw [cell_of_row _ _ _ _ _ _ h1]; rfl
          · rw [cell_of_row _ _ _ _ _ _ h1]; rfl
          · rw [cell_of_row _ _ _ _ _ _ h0]; rfl
          · rw [cell_of_row _ _ _ _ _ _ h0]; rfl
          · rw [cell_of_row _ _ _ _ _ _ h0]; rfl
        obtain ⟨⟨x0, x1, x2⟩, ⟨y0, y1, y2⟩, yf⟩ := hcells W rfl rfl
        have y3 := yf 0
        have y4 := yf 1
        have y5 := yf 2
        have HCELLS := Lib.hid hcells
        have HBW := Lib.hid hBW
        have HSW := Lib.hid hsW
        clear hcells yf hBW hsW hTW a0 a1
        go_region_law (go_simp; go_wp2_with (go_at_call 25; refine HV.out.mono ?_; rintro e w3 ⟨rfl, hb3⟩; obtain ⟨⟨z0, z1, z2⟩, ⟨z3, z4, z5⟩, zf⟩ := HCELLS.out w3 (hb3.block _ (by have := HSW.out; have := HS0.out; show _ < W.heap.size; omega)) (hb3.block _ (by have := HSW.out; have := HS0.out; show _ < W.heap.size; omega)); have z6 := zf 0; have z7 := zf 1; have z8 := zf 2; clear zf; have hb3 := Lib.hid hb3))
        all_goals go_wp2
        all_goals refine bodyPost_ret (by simp [results, Tryd.results63, go_sem, z3, z4, z5]; try rfl) rfl ?_
        all_goals (
          refine ⟨(((HBW.out.drew.trans (hb3.out.mono (by show w.heap.size ≤ W.heap.size; exact HBW.out.size))).setCell (p := ⟨w.heap.size, 0, none⟩) (Nat.le_refl _) _).setCell (p := ⟨w.heap.size, 1, none⟩) (Nat.le_refl _) _).setCell (p := ⟨w.heap.size, 2, none⟩) (Nat.le_refl _) _, ?_⟩
          exact ⟨_, _, vo, rfl, HTK.out⟩)
      · have hno : takenV 1 xs = none := by
          unfold takenV
          rw [if_pos rfl, if_neg (by omega)]
        have HNO := Lib.hid hno
        have h8' : ((j : Int) == 8) = false := by rw [beq_eq_false_iff_ne]; omega
        clear hno hwe hlen
        have v1 : wr.cell? ⟨w.heap.size + 1, 1, none⟩ = some (.int .i64 0) := by rw [cell_of_row _ _ _ _ _ _ g1]; rfl
        have f1 : wr.frozen? ⟨w.heap.size + 1, 1, none⟩ = false := Lib.frozen_of_heap g1 _
        have a1 : (wr.setCell ⟨w.heap.size + 1, 1, none⟩ (.int .i64 nn)).heap[w.heap.size + 1]? = some (.cells #[.int .i64 1, .int .i64 (nn), .string (⟨#[]⟩)] 23) := by
          have := Lib.heap_setCell_same (i := 1) g1 (.int .i64 nn)
          simpa using this
        have a0 : (wr.setCell ⟨w.heap.size + 1, 1, none⟩ (.int .i64 nn)).heap[w.heap.size]? = some (.cells #[.int .i64 0, .int .i64 0, .string ⟨#[]⟩] 23) := by
          rw [Below.heap_setCell _ _ _ _ (by simp)]; exact g0
        have hBW : Below w.heap.size w (wr.setCell ⟨w.heap.size + 1, 1, none⟩ (.int .i64 nn)) := hBw2.setCell (p := ⟨w.heap.size + 1, 1, none⟩) (by show w.heap.size ≤ w.heap.size + 1; omega) _
        have hsW : wr.heap.size ≤ (wr.setCell ⟨w.heap.size + 1, 1, none⟩ (.int .i64 nn)).heap.size := by rw [World.size_setCell]; exact hb2s
        have hTW : Lib.Utf8Tabs 0 1 (wr.setCell ⟨w.heap.size + 1, 1, none⟩ (.int .i64 nn)) := tabs_below HT.out hBW
        clear g0 g1
        go_wp2_with fail
        generalize wr.setCell ⟨w.heap.size + 1, 1, none⟩ (.int .i64 nn) = W at *
        have hcells : ∀ X : World, X.heap[w.heap.size + 1]? = W.heap[w.heap.size + 1]? → X.heap[w.heap.size]? = W.heap[w.heap.size]? → (X.cell? ⟨w.heap.size + 1, 0, none⟩ = some (.int .i64 1) ∧ X.cell? ⟨w.heap.size + 1, 1, none⟩ = some (.int .i64 (nn)) ∧ X.cell? ⟨w.heap.size + 1, 2, none⟩ = some (.string (⟨#[]⟩))) ∧ (X.cell? ⟨w.heap.size, 0, none⟩ = some (.int .i64 0) ∧ X.cell? ⟨w.heap.size, 1, none⟩ = some (.int .i64 0) ∧ X.cell? ⟨w.heap.size, 2, none⟩ = some (.string ⟨#[]⟩)) ∧ (∀ i, X.frozen? ⟨w.heap.size, i, none⟩ = false) := fun X h1 h0 => by
          rw [a1] at h1
          rw [a0] at h0
          refine ⟨⟨?_, ?_, ?_⟩, ⟨?_, ?_, ?_⟩, fun i => Lib.frozen_of_heap h0 _⟩
          · rw [cell_of_row _ _ _ _ _ _ h1]; rfl
          · rw [cell_of_row _ _ _ _ _ _ h1]; rfl
          · rw [cell_of_row _ _ _ _ _ _ h1]; rfl
          · rw [cell_of_row _ _ _ _ _ _ h0]; rfl
          · rw [cell_of_row _ _ _ _ _ _ h0]; rfl
          · rw [cell_of_row _ _ _ _ _ _ h0]; rfl
        obtain ⟨⟨x0, x1, x2⟩, ⟨y0, y1, y2⟩, yf⟩ := hcells W rfl rfl
        have y3 := yf 0
        have y4 := yf 1
        have y5 := yf 2
        have HCELLS := Lib.hid hcells
        have HBW := Lib.hid hBW
        have HSW := Lib.hid hsW
        clear hcells yf hBW hsW hTW a0 a1
        go_region_law (fail)
        all_goals go_wp2
        all_goals refine bodyPost_ret (by simp [results, Tryd.results63, go_sem, y0, y1, y2]; try rfl) rfl ?_
        all_goals exact ⟨((HBW.out.drew.setCell (p := ⟨w.heap.size, 0, none⟩) (Nat.le_refl _) _).setCell (p := ⟨w.heap.size, 1, none⟩) (Nat.le_refl _) _).setCell (p := ⟨w.heap.size, 2, none⟩) (Nat.le_refl _) _, _, _, false, rfl, by rw [HNO.out]; rfl⟩
end Go.Proofs.YtonghiaocpenaaaDoor
