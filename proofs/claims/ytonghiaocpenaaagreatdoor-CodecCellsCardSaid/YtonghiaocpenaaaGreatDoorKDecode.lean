/-
  codec.Decode.
-/
import Derived.Test.YtonghiaocpenaaaGreatDoorKDec
namespace Go.Proofs.YtonghiaocpenaaaGreatDoor
open Go.RowKit

def DecOut (xs : List Int) (w : World) (e : Ending) (w' : World) : Prop :=
  Below w.heap.size w w' ∧ ((∃ c, cellV xs = some c ∧ e = .returned (.tuple #[c.v, .bool true])) ∨ (cellV xs = none ∧ e = .returned (.tuple #[.agg zeroC, .bool false])))

set_option maxHeartbeats 1000000 in
set_option maxRecDepth 100000 in
theorem dec_calls (A : Option Addr) (n cap : Nat) (xs : List Int) (w : World) (hx : RdB w A n xs) (hby : Bytes xs) (hA : A = none ∨ ∃ b o, A = some ⟨b, o, none⟩ ∧ b < w.heap.size) (hn : n ≤ 1000000) (hcap : n ≤ cap) (hcm : cap ≤ maxLen) (hG : Ground w) :
    Calls Tryz.prog 17 #[.slice A n cap] w (DecOut xs w) := by
  have hmf : ∀ (fn : Fn) (first cap : Array Value) (w : World), (Instr.makeFunc fn first cap).run Tryz.prog w = .ok (.func fn first cap) w := fun _ _ _ _ => rfl
  obtain ⟨W0, hW0⟩ : ∃ W0, W0 = (((w.alloc (.cells zeroC 25)).alloc (.cells #[.bool false] 4)).alloc (.cells #[.slice A n cap] 72)) := ⟨_, rfl⟩
  have hB0 : Below w.heap.size w W0 := by rw [hW0]; exact (((Below.refl _ _).alloc (Nat.le_refl _) _).alloc (by simp) _).alloc (by simp; omega) _
  have hs0 : W0.heap.size = w.heap.size + 3 := by rw [hW0]; simp
  have hg0 : W0.heap[w.heap.size]? = some (.cells zeroC 25) := by
    rw [hW0, heap_alloc_old _ _ (by simp; omega), heap_alloc_old _ _ (by simp), heap_alloc_new]
  have hg1 : W0.heap[w.heap.size + 1]? = some (.cells #[.bool false] 4) := by
    have := heap_alloc_new (w.alloc (.cells zeroC 25)) (.cells #[.bool false] 4)
    rw [hW0, heap_alloc_old _ _ (by simp)]
    simpa using this
  have hg2 : W0.heap[w.heap.size + 2]? = some (.cells #[.slice A n cap] 72) := by
    have := heap_alloc_new ((w.alloc (.cells zeroC 25)).alloc (.cells #[.bool false] 4)) (.cells #[.slice A n cap] 72)
    rw [hW0]
    simpa using this
  have hR : RdrAt w.heap.size (w.heap.size + 2) xs W0 := ⟨A, n, cap, by rw [cell_of_row _ _ _ _ _ _ hg2]; rfl, Lib.frozen_of_heap hg2 _, hx.below hB0, hby, hcap, hcm, hA, by omega, hn⟩
  have hcell := Lib.hid (rcell_calls w.heap.size (w.heap.size + 2) xs W0 hR (by omega) w rfl hB0 hG)
  have HW0 := Lib.hid hW0
  have HB0 := Lib.hid hB0
  have G0 := Lib.hid hg0
  have G1 := Lib.hid hg1
  have S0 := Lib.hid hs0
  clear hx hby hA hR hG hW0 hB0 hg0 hg1 hg2 hs0
  go_enter_defers Tryz.func17, Tryz.ntmps17
  go_wp2_with fail
  rw [← HW0.out]
  refine hcell.out.mono ?_
  rintro e W1 ⟨ho, ⟨c, hcv, rfl⟩ | ⟨hcv, rfl⟩⟩
  · have g0 := (ho.block _ (by have := S0.out; omega) (by omega)).trans G0.out
    have g1 := (ho.block _ (by have := S0.out; omega) (by omega)).trans G1.out
    have m0 : W1.cell? ⟨w.heap.size, 0, none⟩ = some (.string ⟨#[]⟩) := by rw [cell_of_row _ _ _ _ _ _ g0]; rfl
    have m1 : W1.cell? ⟨w.heap.size, 1, none⟩ = some (.string ⟨#[]⟩) := by rw [cell_of_row _ _ _ _ _ _ g0]; rfl
    have m2 : W1.cell? ⟨w.heap.size, 2, none⟩ = some (.string ⟨#[]⟩) := by rw [cell_of_row _ _ _ _ _ _ g0]; rfl
    have m3 : W1.cell? ⟨w.heap.size, 3, none⟩ = some (.int .i64 0) := by rw [cell_of_row _ _ _ _ _ _ g0]; rfl
    have m4 : W1.cell? ⟨w.heap.size, 4, none⟩ = some (.int .i64 0) := by rw [cell_of_row _ _ _ _ _ _ g0]; rfl
    have m5 : W1.cell? ⟨w.heap.size, 5, none⟩ = some (.int .i64 0) := by rw [cell_of_row _ _ _ _ _ _ g0]; rfl
    have m6 : W1.cell? ⟨w.heap.size, 6, none⟩ = some (.int .i64 0) := by rw [cell_of_row _ _ _ _ _ _ g0]; rfl
    have m7 : W1.cell? ⟨w.heap.size, 7, none⟩ = some (.string ⟨#[]⟩) := by rw [cell_of_row _ _ _ _ _ _ g0]; rfl
    have f0 := Lib.frozen_of_heap g0 0
    have f1 := Lib.frozen_of_heap g0 1
    have f2 := Lib.frozen_of_heap g0 2
    have f3 := Lib.frozen_of_heap g0 3
    have f4 := Lib.frozen_of_heap g0 4
    have f5 := Lib.frozen_of_heap g0 5
    have f6 := Lib.frozen_of_heap g0 6
    have f7 := Lib.frozen_of_heap g0 7
    have n0 : W1.cell? ⟨w.heap.size + 1, 0, none⟩ = some (.bool false) := by rw [cell_of_row _ _ _ _ _ _ g1]; rfl
    have fq := Lib.frozen_of_heap g1 0
    have hB1 := Lib.hid (HB0.out.trans (ho.below (B := w.heap.size) (by have := S0.out; omega) (fun i hi => by omega)))
    have HCV := Lib.hid hcv
    clear hcv g0 g1 ho
    go_wp2
    refine leaves_cons (f := 43) (args := #[.pointer (some ⟨w.heap.size, 0, none⟩), .pointer (some ⟨w.heap.size + 1, 0, none⟩)]) (by simp) (by simp [go_sem]) ?_
    refine (catch_idle ⟨w.heap.size, 0, none⟩ ⟨w.heap.size + 1, 0, none⟩ _).mono ?_
    rintro e u' W2 ⟨rfl, rfl, rfl⟩
    simp [Leaves, settle, results, Tryz.results17, go_sem, m0, m1, m2, m3, m4, m5, m6, m7, n0]
    exact ⟨(Below.setCell (p := ⟨w.heap.size + 1, 0, none⟩) (Below.setCell (p := ⟨w.heap.size, 7, none⟩) (Below.setCell (p := ⟨w.heap.size, 6, none⟩) (Below.setCell (p := ⟨w.heap.size, 5, none⟩) (Below.setCell (p := ⟨w.heap.size, 4, none⟩) (Below.setCell (p := ⟨w.heap.size, 3, none⟩) (Below.setCell (p := ⟨w.heap.size, 2, none⟩) (Below.setCell (p := ⟨w.heap.size, 1, none⟩) (Below.setCell (p := ⟨w.heap.size, 0, none⟩) hB1.out (Nat.le_refl _) _) (Nat.le_refl _) _) (Nat.le_refl _) _) (Nat.le_refl _) _) (Nat.le_refl _) _) (Nat.le_refl _) _) (Nat.le_refl _) _) (Nat.le_refl _) _) (Nat.le_succ _) _), .inl ⟨c, HCV.out, rfl⟩⟩
  · have g0 := (ho.block _ (by have := S0.out; omega) (by omega)).trans G0.out
    have g1 := (ho.block _ (by have := S0.out; omega) (by omega)).trans G1.out
    refine leaves_cons (f := 43) (args := #[.pointer (some ⟨w.heap.size, 0, none⟩), .pointer (some ⟨w.heap.size + 1, 0, none⟩)]) (by simp) (by simp [go_sem]) ?_
    refine (catch_bad w.heap.size (w.heap.size + 1) [] W1 (by omega) g0 g1).mono ?_
    rintro e u' W2 ⟨rfl, rfl, g2, g3, ho2⟩
    have m0 : W2.cell? ⟨w.heap.size, 0, none⟩ = some (.string ⟨#[]⟩) := by rw [cell_of_row _ _ _ _ _ _ g2]; rfl
    have m1 : W2.cell? ⟨w.heap.size, 1, none⟩ = some (.string ⟨#[]⟩) := by rw [cell_of_row _ _ _ _ _ _ g2]; rfl
    have m2 : W2.cell? ⟨w.heap.size, 2, none⟩ = some (.string ⟨#[]⟩) := by rw [cell_of_row _ _ _ _ _ _ g2]; rfl
    have m3 : W2.cell? ⟨w.heap.size, 3, none⟩ = some (.int .i64 0) := by rw [cell_of_row _ _ _ _ _ _ g2]; rfl
    have m4 : W2.cell? ⟨w.heap.size, 4, none⟩ = some (.int .i64 0) := by rw [cell_of_row _ _ _ _ _ _ g2]; rfl
    have m5 : W2.cell? ⟨w.heap.size, 5, none⟩ = some (.int .i64 0) := by rw [cell_of_row _ _ _ _ _ _ g2]; rfl
    have m6 : W2.cell? ⟨w.heap.size, 6, none⟩ = some (.int .i64 0) := by rw [cell_of_row _ _ _ _ _ _ g2]; rfl
    have m7 : W2.cell? ⟨w.heap.size, 7, none⟩ = some (.string ⟨#[]⟩) := by rw [cell_of_row _ _ _ _ _ _ g2]; rfl
    have n0 : W2.cell? ⟨w.heap.size + 1, 0, none⟩ = some (.bool false) := by rw [cell_of_row _ _ _ _ _ _ g3]; rfl
    have hB1 := HB0.out.trans (ho.below (B := w.heap.size) (by have := S0.out; omega) (fun i hi => by omega))
    have hB2 : Below w.heap.size w W2 := hB1.trans (ho2.below (B := w.heap.size) hB1.size (fun i hi => by omega))
    simp [Leaves, settle, results, Tryz.results17, go_sem, m0, m1, m2, m3, m4, m5, m6, m7, n0]
    exact ⟨hB2, .inr ⟨hcv, rfl⟩⟩
end Go.Proofs.YtonghiaocpenaaaGreatDoor
