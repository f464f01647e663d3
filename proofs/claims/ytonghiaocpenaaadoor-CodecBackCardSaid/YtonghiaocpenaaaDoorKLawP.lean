/-
  Plain: what CodecOrder's, CodecRows' and CodecLate's loops find.
-/
import Derived.Test.YtonghiaocpenaaaDoorKSame
namespace Go.Proofs.YtonghiaocpenaaaDoor
open Go.RowKit

theorem cmpL_refl : ∀ l : List Int, cmpL l l = 0
  | [] => rfl
  | x :: l => by rw [cmpL_same]; exact cmpL_refl l
/-- No key is another's proper beginning. -/
theorem key_prefix {a b : Cell} {r : List Int} (h : keyL a ++ r = keyL b) : r = [] := by
  unfold keyL at h
  rw [List.append_assoc, List.append_assoc] at h
  have h1 := (esc_inj h).2
  have h2 := (esc_inj h1).2
  have l8 : ∀ u, (eightL u).length = 8 := fun u => rfl
  by_cases h4 : a.kind = 4
  · by_cases h5 : b.kind = 4
    · rw [if_pos h4, if_pos h5] at h2
      have := congrArg List.length h2
      simp only [List.length_append, List.length_cons, List.length_nil, l8] at this
      exact List.eq_nil_of_length_eq_zero (by omega)
    · rw [if_pos h4, if_neg h5] at h2
      have h3 := (cmp_zero_esc b.qual ((eightL (9223372036854775807 - a.time) ++ [255 - a.kind]) ++ r) (eightL (9223372036854775807 - b.time) ++ [255 - b.kind])).1
      rw [← h2] at h3
      have : cmpL ([0, 0] ++ (eightL (9223372036854775807 - a.time) ++ [255 - a.kind]) ++ r) ([0, 0] ++ (eightL (9223372036854775807 - a.time) ++ [255 - a.kind]) ++ r) = -1 := h3
      rw [cmpL_refl] at this
      omega
  · by_cases h5 : b.kind = 4
    · rw [if_neg h4, if_pos h5, List.append_assoc] at h2
      have h3 := (cmp_zero_esc a.qual (eightL (9223372036854775807 - b.time) ++ [255 - b.kind]) ((eightL (9223372036854775807 - a.time) ++ [255 - a.kind]) ++ r)).2
      rw [h2] at h3
      have : cmpL ([0, 0] ++ (eightL (9223372036854775807 - b.time) ++ [255 - b.kind])) ([0, 0] ++ (eightL (9223372036854775807 - b.time) ++ [255 - b.kind])) = 1 := h3
      rw [cmpL_refl] at this
      omega
    · rw [if_neg h4, if_neg h5, List.append_assoc] at h2
      have h3 := (esc_inj h2).2
      have := congrArg List.length h3
      simp only [List.length_append, List.length_cons, List.length_nil, l8] at this
      exact List.eq_nil_of_length_eq_zero (by omega)
theorem cmpL_at : ∀ (k : Nat) {xs ys : List Int} {c d : Int}, xs.take k = ys.take k → xs[k]? = some c → ys[k]? = some d → c ≠ d → cmpL xs ys = if c < d then -1 else 1
  | 0, x :: xs, y :: ys, c, d, _, hx, hy, hne => by
    injection hx with hx; injection hy with hy
    subst hx; subst hy
    by_cases h : x < y
    · rw [cmpL_below _ _ h, if_pos h]
    · rw [cmpL_above _ _ (by omega), if_neg h]
  | k + 1, x :: xs, y :: ys, c, d, ht, hx, hy, hne => by
    simp only [List.take_succ_cons, List.cons.injEq] at ht
    obtain ⟨rfl, ht⟩ := ht
    rw [cmpL_same]
    exact cmpL_at k ht (by simpa using hx) (by simpa using hy) hne
  | k, [], ys, c, d, _, hx, _, _ => by simp at hx
  | k, x :: xs, [], c, d, _, _, hy, _ => by simp at hy
/-- Two keys that are the same as far as the shorter one goes. -/
theorem keys_end {a b : Cell} {k : Nat} (ht : (keyL a).take k = (keyL b).take k) (hk : (keyL a).length ≤ k ∨ (keyL b).length ≤ k) : keyL a = keyL b := by
  rcases hk with hk | hk
  · rw [List.take_of_length_le hk] at ht
    have e : keyL a ++ (keyL b).drop k = keyL b := by rw [ht]; exact List.take_append_drop k _
    have := key_prefix e
    rw [this, List.append_nil] at e
    exact e
  · rw [List.take_of_length_le hk] at ht
    have e : keyL b ++ (keyL a).drop k = keyL a := by rw [← ht]; exact List.take_append_drop k _
    have := key_prefix e
    rw [this, List.append_nil] at e
    exact e.symm
/-- Of one column the later cell is ahead. -/
theorem order_late (c : Cell) (t : Int) : c.order { c with time := t } = cmpI t c.time := by
  have e1 : cmpS c.row c.row = 0 := cmpS_self _
  have e2 : cmpS c.fam c.fam = 0 := cmpS_self _
  have e3 : cmpS c.qual c.qual = 0 := cmpS_self _
  have e4 : ∀ x, cmpI x x = 0 := fun x => by unfold cmpI; rw [if_neg (Int.lt_irrefl x), if_neg (Int.lt_irrefl x)]
  show orI [cmpS c.row c.row, cmpS c.fam c.fam, cmpI (wholeI c) (wholeI c), cmpS c.qual c.qual, cmpI t c.time, cmpI c.kind c.kind] = _
  rw [e1, e2, e3, e4, e4, orI_cons, if_pos rfl, orI_cons, if_pos rfl, orI_cons, if_pos rfl, orI_cons, if_pos rfl, orI_two]
  by_cases h : cmpI t c.time = 0
  · rw [if_pos h, h]
  · rw [if_neg h]
theorem order_self (c : Cell) : c.order c = 0 := by
  have := order_late c c.time
  rw [this]
  unfold cmpI; rw [if_neg (Int.lt_irrefl _), if_neg (Int.lt_irrefl _)]
end Go.Proofs.YtonghiaocpenaaaDoor
