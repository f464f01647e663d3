/-
  The closure that forget hands to slices.DeleteFunc; slices.IndexFunc with it.
-/
import Derived.Test.YtideokbaenkijaaSPure
import Derived.Test.YtideokbaenkijaaKBytes
import Derived.LaidEqlPtr
namespace Go.Proofs.Ytideokbaenkijaa
open Go.RowKit

/-- What was written to a file, as it lies. -/
def encW (p : Nat × Nat) : List Value := [.pointer (some ⟨p.1, 0, none⟩), .int .i64 p.2]
theorem encW_len (p : Nat × Nat) : (encW p).length = 2 := rfl
theorem encW_one (p : Nat × Nat) : ∀ u ∈ encW p, u.oneCell' = true := by
  intro u hu
  simp only [encW, List.mem_cons, List.not_mem_nil, or_false] at hu
  rcases hu with rfl | rfl <;> rfl
abbrev RdW := Rd 2 encW
abbrev OwnW := Own 86 2 encW
theorem infoWrite : (Try.prog.info? 86).map (fun i => (i.zero, i.size, i.bytes)) = some (some (.agg #[.pointer none, .int .i64 0]), 2, 16) := by kernel_rfl
/-- The closure over the box at block x. -/
abbrev delF (x : Nat) : Value := .func (.func 79) #[] #[.pointer (some ⟨x, 0, none⟩)]

/-- A file lies at block k. -/
def Alive (w : World) (k : Nat) : Prop := ∃ cs, w.heap[k]? = some (.cells cs 84 (0, 0))
theorem Alive.below {w w' : World} {k : Nat} (h : Alive w k) (hb : Below w.heap.size w w') : Alive w' k := by
  obtain ⟨cs, h⟩ := h
  exact ⟨cs, (hb.block k (Array.getElem?_eq_some_iff.1 h).1).trans h⟩
theorem infoFile : (Try.prog.info? 84).map (fun i => (i.zero, i.size, i.bytes)) = some (some (.agg #[.slice none 0 0, .int .i64 0, .bool false]), 3, 40) := by kernel_rfl
theorem eql_ptr {w : World} {k m : Nat} (h1 : Alive w k) (h2 : Alive w m) : (binOp .eql 82 (.pointer (some ⟨k, 0, none⟩)) (.pointer (some ⟨m, 0, none⟩))).run Try.prog w = .ok (.bool (decide (k = m))) w := by
  obtain ⟨i0, hi, hz0, hz1, hz2⟩ := info_parts infoFile
  obtain ⟨cs, h1⟩ := h1
  obtain ⟨ds, h2⟩ := h2
  by_cases h : k = m
  · subst h
    rw [decide_eq_true rfl]
    exact run_eql_ptr_same w _ Try.underlying82 hi
  · rw [decide_eq_false h]
    exact run_eql_ptr_other w Try.underlying82 hi (by rw [hz1]; decide) (fun e => h (by injection e)) h1 h2

set_option maxHeartbeats 1000000 in
theorem del_calls (p : Nat × Nat) (x id : Nat) (w : World) (hx : w.cell? ⟨x, 0, none⟩ = some (.pointer (some ⟨id, 0, none⟩))) (h1 : Alive w p.1) (h2 : Alive w id) :
    Calls Try.prog 79 #[.agg #[.pointer (some ⟨p.1, 0, none⟩), .int .i64 p.2], .pointer (some ⟨x, 0, none⟩)] w fun e w' => e = .returned (.bool (decide (p.1 = id))) ∧ Below w.heap.size w w' := by
  obtain ⟨k, n⟩ := p
  have hb : Below w.heap.size w (w.alloc (.cells #[.pointer (some ⟨k, 0, none⟩), .int .i64 n] 86)) := (Below.refl _ _).alloc (Nat.le_refl _) _
  have hx' := below_cell hb (Nat.le_refl _) hx
  have he := eql_ptr (h1.below hb) (h2.below hb)
  have HB := Lib.hid hb
  clear hx hb h1 h2
  go_enter Try.func79, Try.ntmps79
  go_wp2
  go_ret
  exact ⟨rfl, HB.out⟩
end Go.Proofs.Ytideokbaenkijaa
