/-
  codec.Decode: the deferred closure that recovers, and the two ways.
-/
import Derived.Test.YtonghiaocpenaaaGreatDoorKRCell
import Derived.Defers
import Derived.Recover
namespace Go.Proofs.YtonghiaocpenaaaGreatDoor
open Go.RowKit

theorem catch_idle (p q : Addr) (w : World) :
    CallsD Tryz.prog 43 #[.pointer (some p), .pointer (some q)] .returning w fun e u' w' => e = .returned (.tuple #[]) ∧ u' = .returning ∧ w' = w := by
  refine callsD_of_wpS Tryz.func43 rfl fun c₀ cs hu => ?_
  apply wpS_seq
  apply wpS_region
  simp [wpOpsS, go_sem, recoverD, hu, Tryz.ntmps43, Exit.thenS]
  refine wpS_of_wp ?_
  go_wp2
  cases c₀
  simp_all [bodyPostS, results, Tryz.results43]
theorem run_bad (w : World) : (Instr.typeAssert (.iface 69 (.agg #[])) 20 69 false).run Tryz.prog w = .ok (.agg #[]) w := by
  simp [Instr.typeAssert, run_underlying Tryz.underlying69]
set_option maxHeartbeats 1000000 in
set_option maxRecDepth 100000 in
theorem catch_bad (p q : Nat) (older : List PanicEntry) (w : World) (hpq : p ≠ q) (hp : w.heap[p]? = some (.cells zeroC 25)) (hq : w.heap[q]? = some (.cells #[.bool false] 4)) :
    CallsD Tryz.prog 43 #[.pointer (some ⟨p, 0, none⟩), .pointer (some ⟨q, 0, none⟩)] (.panicking ({ v := .iface 69 (.agg #[]), recovered := false } :: older)) w fun e u' w' => e = .returned (.tuple #[]) ∧ u' = .panicking ({ v := .iface 69 (.agg #[]), recovered := true } :: older) ∧ w'.heap[p]? = some (.cells zeroC 25) ∧ w'.heap[q]? = some (.cells #[.bool false] 4) ∧ Only (fun k => k = p ∨ k = q) w w' := by
  have hta := run_bad w
  have m0 : w.cell? ⟨p, 0, none⟩ = some (.string ⟨#[]⟩) := by rw [cell_of_row _ _ _ _ _ _ hp]; rfl
  have m1 : w.cell? ⟨p, 1, none⟩ = some (.string ⟨#[]⟩) := by rw [cell_of_row _ _ _ _ _ _ hp]; rfl
  have m2 : w.cell? ⟨p, 2, none⟩ = some (.string ⟨#[]⟩) := by rw [cell_of_row _ _ _ _ _ _ hp]; rfl
  have m3 : w.cell? ⟨p, 3, none⟩ = some (.int .i64 0) := by rw [cell_of_row _ _ _ _ _ _ hp]; rfl
  have m4 : w.cell? ⟨p, 4, none⟩ = some (.int .i64 0) := by rw [cell_of_row _ _ _ _ _ _ hp]; rfl
  have m5 : w.cell? ⟨p, 5, none⟩ = some (.int .i64 0) := by rw [cell_of_row _ _ _ _ _ _ hp]; rfl
  have m6 : w.cell? ⟨p, 6, none⟩ = some (.int .i64 0) := by rw [cell_of_row _ _ _ _ _ _ hp]; rfl
  have m7 : w.cell? ⟨p, 7, none⟩ = some (.string ⟨#[]⟩) := by rw [cell_of_row _ _ _ _ _ _ hp]; rfl
  have n0 : w.cell? ⟨q, 0, none⟩ = some (.bool false) := by rw [cell_of_row _ _ _ _ _ _ hq]; rfl
  have f0 : w.frozen? ⟨p, 0, none⟩ = false := Lib.frozen_of_heap hp _
  have f1 : w.frozen? ⟨p, 1, none⟩ = false := Lib.frozen_of_heap hp _
  have f2 : w.frozen? ⟨p, 2, none⟩ = false := Lib.frozen_of_heap hp _
  have f3 : w.frozen? ⟨p, 3, none⟩ = false := Lib.frozen_of_heap hp _
  have f4 : w.frozen? ⟨p, 4, none⟩ = false := Lib.frozen_of_heap hp _
  have f5 : w.frozen? ⟨p, 5, none⟩ = false := Lib.frozen_of_heap hp _
  have f6 : w.frozen? ⟨p, 6, none⟩ = false := Lib.frozen_of_heap hp _
  have f7 : w.frozen? ⟨p, 7, none⟩ = false := Lib.frozen_of_heap hp _
  have fq : w.frozen? ⟨q, 0, none⟩ = false := Lib.frozen_of_heap hq _
  have HP := Lib.hid hp
  have HQ := Lib.hid hq
  clear hp hq
  refine callsD_of_wpS Tryz.func43 rfl fun c₀ cs hu => ?_
  apply wpS_seq
  apply wpS_region
  simp [wpOpsS, go_sem, recoverD, hu, Tryz.ntmps43, Exit.thenS]
  refine wpS_of_wp ?_
  go_wp2
  have e0 := Lib.heap_setCell_same (i := 0) HP.out (.string ⟨#[]⟩)
  have e1 := Lib.heap_setCell_same (i := 1) e0 (.string ⟨#[]⟩)
  have e2 := Lib.heap_setCell_same (i := 2) e1 (.string ⟨#[]⟩)
  have e3 := Lib.heap_setCell_same (i := 3) e2 (.int .i64 0)
  have e4 := Lib.heap_setCell_same (i := 4) e3 (.int .i64 0)
  have e5 := Lib.heap_setCell_same (i := 5) e4 (.int .i64 0)
  have e6 := Lib.heap_setCell_same (i := 6) e5 (.int .i64 0)
  have e7 := Lib.heap_setCell_same (i := 7) e6 (.string ⟨#[]⟩)
  have hst : ∀ (X : World) (b i : Nat) (v : Value), b = p ∨ b = q → Only (fun k => k = p ∨ k = q) w X → Only (fun k => k = p ∨ k = q) w (X.setCell ⟨b, i, none⟩ v) := fun X b i v hb hX =>
    hX.trans' (T := fun k => k = b) ⟨rfl, rfl, rfl, by simp, fun k _ hk => heap_setCell_other X ⟨b, i, none⟩ k v hk⟩ (fun i hi => .inl (by rw [hi]; exact hb))
  have hon := hst _ q 0 (.bool false) (.inr rfl) (hst _ p 7 (.string ⟨#[]⟩) (.inl rfl) (hst _ p 6 (.int .i64 0) (.inl rfl) (hst _ p 5 (.int .i64 0) (.inl rfl) (hst _ p 4 (.int .i64 0) (.inl rfl) (hst _ p 3 (.int .i64 0) (.inl rfl) (hst _ p 2 (.string ⟨#[]⟩) (.inl rfl) (hst _ p 1 (.string ⟨#[]⟩) (.inl rfl) (hst _ p 0 (.string ⟨#[]⟩) (.inl rfl) (Only.refl _ w)))))))))
  have hP : (((((((((w.setCell ⟨p, 0, none⟩ (.string ⟨#[]⟩)).setCell ⟨p, 1, none⟩ (.string ⟨#[]⟩)).setCell ⟨p, 2, none⟩ (.string ⟨#[]⟩)).setCell ⟨p, 3, none⟩ (.int .i64 0)).setCell ⟨p, 4, none⟩ (.int .i64 0)).setCell ⟨p, 5, none⟩ (.int .i64 0)).setCell ⟨p, 6, none⟩ (.int .i64 0)).setCell ⟨p, 7, none⟩ (.string ⟨#[]⟩)).setCell ⟨q, 0, none⟩ (.bool false)).heap[p]? = some (.cells zeroC 25) := by
    rw [Below.heap_setCell _ _ _ _ hpq]
    simpa using e7
  have hQ : (((((((((w.setCell ⟨p, 0, none⟩ (.string ⟨#[]⟩)).setCell ⟨p, 1, none⟩ (.string ⟨#[]⟩)).setCell ⟨p, 2, none⟩ (.string ⟨#[]⟩)).setCell ⟨p, 3, none⟩ (.int .i64 0)).setCell ⟨p, 4, none⟩ (.int .i64 0)).setCell ⟨p, 5, none⟩ (.int .i64 0)).setCell ⟨p, 6, none⟩ (.int .i64 0)).setCell ⟨p, 7, none⟩ (.string ⟨#[]⟩)).setCell ⟨q, 0, none⟩ (.bool false)).heap[q]? = some (.cells #[.bool false] 4) := by
    have hq8 : ((((((((w.setCell ⟨p, 0, none⟩ (.string ⟨#[]⟩)).setCell ⟨p, 1, none⟩ (.string ⟨#[]⟩)).setCell ⟨p, 2, none⟩ (.string ⟨#[]⟩)).setCell ⟨p, 3, none⟩ (.int .i64 0)).setCell ⟨p, 4, none⟩ (.int .i64 0)).setCell ⟨p, 5, none⟩ (.int .i64 0)).setCell ⟨p, 6, none⟩ (.int .i64 0)).setCell ⟨p, 7, none⟩ (.string ⟨#[]⟩)).heap[q]? = some (.cells #[.bool false] 4) := by
      have hqp : q ≠ p := fun e => hpq e.symm
      rw [Below.heap_setCell _ _ _ _ hqp, Below.heap_setCell _ _ _ _ hqp, Below.heap_setCell _ _ _ _ hqp, Below.heap_setCell _ _ _ _ hqp, Below.heap_setCell _ _ _ _ hqp, Below.heap_setCell _ _ _ _ hqp, Below.heap_setCell _ _ _ _ hqp, Below.heap_setCell _ _ _ _ hqp]
      exact HQ.out
    have := Lib.heap_setCell_same (i := 0) hq8 (.bool false)
    simpa using this
  clear e0 e1 e2 e3 e4 e5 e6 e7 hst m0 m1 m2 m3 m4 m5 m6 m7 f0 f1 f2 f3 f4 f5 f6 f7 n0 fq hta
  generalize (((((((((w.setCell ⟨p, 0, none⟩ (.string ⟨#[]⟩)).setCell ⟨p, 1, none⟩ (.string ⟨#[]⟩)).setCell ⟨p, 2, none⟩ (.string ⟨#[]⟩)).setCell ⟨p, 3, none⟩ (.int .i64 0)).setCell ⟨p, 4, none⟩ (.int .i64 0)).setCell ⟨p, 5, none⟩ (.int .i64 0)).setCell ⟨p, 6, none⟩ (.int .i64 0)).setCell ⟨p, 7, none⟩ (.string ⟨#[]⟩)).setCell ⟨q, 0, none⟩ (.bool false)) = W at *
  simp [bodyPostS, results, Tryz.results43, go_sem]
  exact ⟨hP, hQ, hon⟩
end Go.Proofs.YtonghiaocpenaaaGreatDoor
