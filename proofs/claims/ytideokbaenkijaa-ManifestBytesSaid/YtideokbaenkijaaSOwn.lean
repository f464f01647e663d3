/-
  A row of the call's own: one element is laid anew; it is cut short; its end is cleared.
-/
import Derived.Test.YtideokbaenkijaaJSl
import Derived.Lib.SliceRun
namespace Go.RowKit

theorem flat_set {α : Type} {enc : α → List Value} {sz : Nat} (hsz : ∀ x, (enc x).length = sz) (x y : α) (j : Nat) (v : Value) (hj : j < sz) (hx : enc x = (enc y).set j v) : ∀ (xs : List α) (i : Nat), xs[i]? = some y → (xs.flatMap enc).set (i * sz + j) v = (xs.set i x).flatMap enc
  | [], i, h => by simp at h
  | z :: xs, 0, h => by
    simp at h; subst h
    rw [List.set_cons_zero, List.flatMap_cons, List.flatMap_cons, Nat.zero_mul, Nat.zero_add, List.set_append_left _ _ (by rw [hsz]; exact hj), hx]
  | z :: xs, i + 1, h => by
    rw [List.set_cons_succ, List.flatMap_cons, List.flatMap_cons, List.set_append_right _ _ (by rw [hsz, Nat.succ_mul]; omega), hsz]
    have : (i + 1) * sz + j - sz = i * sz + j := by rw [Nat.succ_mul]; omega
    rw [this, flat_set hsz x y j v hj hx xs i (by simpa using h)]
theorem own_set {α : Type} {enc : α → List Value} {sz : Nat} {E : TypeId} {w : World} {base g n cap : Nat} {xs : List α} (hsz : ∀ x, (enc x).length = sz) (h : Own E sz enc w base (some ⟨g, 0, none⟩) n cap xs) (i j : Nat) (x y : α) (v : Value) (hi : xs[i]? = some y) (hj : j < sz) (hx : enc x = (enc y).set j v) :
    Own E sz enc (w.setCell ⟨g, i * sz + j, none⟩ v) base (some ⟨g, 0, none⟩) n cap (xs.set i x) ∧ Only (fun k => (some ⟨g, 0, none⟩ : Option Addr) = some ⟨k, 0, none⟩) w (w.setCell ⟨g, i * sz + j, none⟩ v) := by
  have := h.2.stored (i * sz + j) v
  rw [flat_set hsz x y j v hj hx xs i hi] at this
  refine ⟨⟨by rw [List.length_set]; exact h.1, this.1⟩, (grownBy_only this.2).mono fun k _ hk => by injection hk with hk; rw [hk]⟩
theorem frozen_of_block {w w' : World} {p : Addr} (h : w'.heap[p.block]? = w.heap[p.block]?) : w'.frozen? p = w.frozen? p := by
  unfold World.frozen?; rw [h]
theorem only_setCell (w : World) (p : Addr) (v : Value) : Only (fun k => k = p.block) w (w.setCell p v) :=
  ⟨rfl, rfl, rfl, by simp, fun k _ hk => heap_setCell_other w p k v hk⟩
theorem only_frozen {S : Nat → Prop} {w w' : World} {p : Addr} (h : Only S w w') (hp : p.block < w.heap.size) (hS : ¬ S p.block) : w'.frozen? p = w.frozen? p := frozen_of_block (h.block _ hp hS)
theorem flat_take {α : Type} {enc : α → List Value} {sz : Nat} (hsz : ∀ x, (enc x).length = sz) : ∀ (xs : List α) (m : Nat), (xs.flatMap enc).take (m * sz) = (xs.take m).flatMap enc
  | [], m => by simp
  | x :: xs, 0 => by simp
  | x :: xs, m + 1 => by
    rw [List.take_succ_cons, List.flatMap_cons, List.flatMap_cons, List.take_append, hsz, List.take_of_length_le (by rw [hsz, Nat.succ_mul]; omega)]
    have : (m + 1) * sz - sz = m * sz := by rw [Nat.succ_mul]; omega
    rw [this, flat_take hsz xs m]
theorem own_room {α : Type} {enc : α → List Value} {sz : Nat} {E : TypeId} {w : World} {base n cap : Nat} {A : Option Addr} {xs : List α} (h : Own E sz enc w base A n cap xs) : n ≤ cap := by
  obtain ⟨h0, h1, h2 | ⟨g, cap', cur, h3, h4, h5, h6, h7, h8, h9⟩⟩ := h
  · omega
  · injection h3 with e1 e2 e3; omega
/-- What is left of a row, that is used from its beginning to behind m. -/
theorem own_take {α : Type} {enc : α → List Value} {sz : Nat} {E : TypeId} {w : World} {base n cap : Nat} {A : Option Addr} {xs : List α} (hsz : ∀ x, (enc x).length = sz) (h : Own E sz enc w base A n cap xs) (m : Nat) (hm : m ≤ n) : Own E sz enc w base A m cap (xs.take m) := by
  obtain ⟨h0, h1, h2 | ⟨g, cap', cur, h3, h4, h5, h6, h7, h8, h9⟩⟩ := h
  · obtain ⟨h2, h3⟩ := h2
    have hm0 : m = 0 := by omega
    subst hm0
    injection h2 with e1 e2 e3
    subst e1
    subst h3
    exact ⟨by simp, by simp, .inl ⟨by rw [e3], rfl⟩⟩
  · have hl : (xs.take m).length = m := by simp; omega
    refine ⟨hl.symm, by rw [flat_len hsz, hl], .inr ⟨g, cap', cur, ?_, h4, h5, by omega, h7, h8, ?_⟩⟩
    · injection h3 with e1 e2 e3
      rw [e1, e3]
    · have := congrArg (List.take (m * sz)) h9
      rw [List.take_take, Nat.min_eq_left (Nat.mul_le_mul_right _ hm)] at this
      rw [this, flat_take hsz]

theorem own_out {α : Type} {enc : α → List Value} {sz : Nat} {E : TypeId} {base g n cap : Nat} {xs : List α} (hsz : ∀ x, (enc x).length = sz) : ∀ (vs : List Value) (o : Nat) (w : World), Own E sz enc w base (some ⟨g, 0, none⟩) n cap xs → n * sz ≤ o →
    Own E sz enc (w.setCells g o vs) base (some ⟨g, 0, none⟩) n cap xs ∧ Only (fun k => k = g) w (w.setCells g o vs)
  | [], o, w, h, _ => ⟨h, Only.refl _ _⟩
  | v :: vs, o, w, h, ho => by
    have h1 := h.2.stored o v
    rw [List.set_eq_of_length_le (by rw [flat_len hsz, ← h.1]; exact ho)] at h1
    have h2 := own_out hsz vs (o + 1) (w.setCell ⟨g, o, none⟩ v) ⟨h.1, h1.1⟩ (by omega)
    exact ⟨h2.1, (only_setCell w ⟨g, o, none⟩ v).trans h2.2⟩
theorem zero_cells2 (a b : Value) (n : Nat) : (Builtin.zeroCells #[a, b] n).toList = (List.replicate n [a, b]).flatten := by
  refine List.ext_getElem? fun i => ?_
  have hl : (Builtin.zeroCells #[a, b] n).toList.length = n * 2 := by simp [Builtin.zeroCells]
  have hr : ((List.replicate n [a, b]).flatten).length = n * 2 := by simp
  by_cases hi : i < n * 2
  · rw [List.getElem?_eq_getElem (by omega), List.getElem?_eq_getElem (by omega)]
    congr 1
    have : ∀ (m : Nat) (j : Nat) (hj : j < ((List.replicate m [a, b]).flatten).length), ((List.replicate m [a, b]).flatten)[j] = #[a, b][j % 2]! := by
      intro m
      induction m with
      | zero => intro j hj; simp at hj
      | succ m ih =>
        intro j hj
        match j, hj with
        | 0, _ => rfl
        | 1, _ => rfl
        | j + 2, hj =>
          have h2 := ih j (by simp [List.replicate_succ] at hj ⊢; omega)
          rw [show (j + 2) % 2 = j % 2 by omega, ← h2]
          simp [List.replicate_succ]
    rw [this n i (by omega)]
    simp [Builtin.zeroCells]
  · rw [List.getElem?_eq_none (by omega), List.getElem?_eq_none (by omega)]
/-- clear of a slice of elements of two cells. -/
theorem run_clear2 {P : Program} (w : World) (t e ty : TypeId) (z a b : Value) (ht : P.underlying t = some (.slice e)) (hv : ∀ w, (zeroValue e).run P w = .ok z w) (hz : z.cells = #[a, b]) (ha : a.oneCell' = true) (hb : b.oneCell' = true) (g o n c : Nat) (hn : 0 < n)
    (hc : ∀ j, j < n * 2 → (w.cell? ⟨g, o + j, none⟩).isSome = true) (hf : ∀ j, j < n * 2 → w.frozen? ⟨g, o + j, none⟩ = false) :
    (Builtin.clear_ #[t] ty #[.slice (some ⟨g, o, none⟩) n c]).run P w = .ok (.tuple #[]) (w.setCells g o ((List.replicate n [a, b]).flatten)) := by
  have hl : ((List.replicate n [a, b]).flatten).length = n * 2 := by simp
  have hst := run_storeCells_cells (P := P) g o ((List.replicate n [a, b]).flatten) 0 w (by rw [hl]; simpa using hc) (by rw [hl]; simpa using hf) (by
    intro v hv'
    obtain ⟨l, h1, h2⟩ := List.mem_flatten.1 hv'
    rw [List.eq_of_mem_replicate h1] at h2
    simp at h2
    rcases h2 with rfl | rfl
    · exact ha
    · exact hb)
  simp only [Nat.add_zero] at hst
  obtain ⟨m, rfl⟩ : ∃ m, n = m + 1 := ⟨n - 1, by omega⟩
  simp [Builtin.clear_, run_underlying ht, hv, hz, zero_cells2, hst]
end Go.RowKit
