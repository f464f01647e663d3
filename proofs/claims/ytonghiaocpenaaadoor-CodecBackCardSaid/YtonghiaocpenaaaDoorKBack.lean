/-
  CodecBack, walked: whatever the cell, the number, the list and the cut, it answers true and turns nothing that was there.
-/
import Derived.Test.YtonghiaocpenaaaDoorKHelp
import Derived.Test.YtonghiaocpenaaaDoorKAliveW
import Derived.Outline
namespace Go.Proofs.YtonghiaocpenaaaDoor
open Go.RowKit

theorem esc_bytes (s : ByteArray) : Bytes (escL s) := by
  intro x hx
  unfold escL at hx
  rw [List.mem_append] at hx
  rcases hx with hx | hx
  · obtain ⟨c, _, hc⟩ := List.mem_flatMap.1 hx
    unfold esc1 at hc
    have := c.toNat_lt
    split at hc
    · simp only [List.mem_cons, List.not_mem_nil, or_false] at hc
      omega
    · simp only [List.mem_cons, List.not_mem_nil, or_false] at hc
      omega
  · simp only [List.mem_cons, List.not_mem_nil, or_false] at hx
    omega
theorem bytes_app {a b : List Int} (ha : Bytes a) (hb : Bytes b) : Bytes (a ++ b) := fun x hx => by
  rcases List.mem_append.1 hx with h | h
  · exact ha x h
  · exact hb x h
theorem bytes_one {x : Int} (h0 : 0 ≤ x) (h1 : x < 256) : Bytes [x] := fun y hy => by
  simp only [List.mem_cons, List.not_mem_nil, or_false] at hy
  subst hy; exact ⟨h0, h1⟩
theorem vlq_bytes : ∀ (n : Nat), Bytes (vlq n) := by
  intro n
  induction n using Nat.strongRecOn with
  | _ n ih =>
    by_cases h : 127 < n
    · rw [vlq_more h]
      intro x hx
      rcases List.mem_cons.1 hx with rfl | hx
      · omega
      · exact ih (n / 128) (by omega) x hx
    · rw [vlq_last h]; exact bytes_one (by omega) (by omega)
theorem rows_bytes : ∀ (l : List (List Int)), (∀ b ∈ l, Bytes b) → Bytes (rowsL l)
  | [], _ => fun x hx => (by cases hx)
  | b :: l, h => by
    rw [rowsL]
    exact bytes_app (vlq_bytes _) (bytes_app (h b (by simp)) (rows_bytes l fun x hx => h x (List.mem_cons_of_mem _ hx)))
theorem list_bytes (l : List (List Int)) (h : ∀ b ∈ l, Bytes b) : Bytes (listL l) := bytes_app (vlq_bytes _) (rows_bytes l h)
theorem key_bytes {c : Cell} (h : c.ok = true) : Bytes (keyL c) := by
  obtain ⟨_, _, _, _, t0, t1, hk⟩ := ok_parts h
  obtain ⟨hk0, hk1⟩ := kind_small hk
  unfold keyL
  refine bytes_app (esc_bytes _) (bytes_app (esc_bytes _) (bytes_app ?_ (bytes_app (eight_bytes _ (by omega) (by omega)) (bytes_one (by omega) (by omega)))))
  split
  · exact fun x hx => by simp at hx; omega
  · exact esc_bytes _
theorem enc_bytes {c : Cell} (h : c.ok = true) (hn : isInt c.vn) : Bytes (encL c) := by
  unfold encL
  refine bytes_app (key_bytes h) ?_
  split
  · rename_i hk
    have hv := val_of_put h hk
    obtain ⟨_, v1, v2⟩ := val_small hv
    unfold valL
    refine bytes_app (a := [c.vk]) (bytes_one (by omega) (by omega)) ?_
    unfold isInt at hn
    split
    · exact eight_bytes _ (by omega) (by omega)
    · split
      · have hr := rank_range (c.vn % 18446744073709551616) (by omega) (by omega)
        exact eight_bytes _ hr.1 hr.2
      · split
        · rename_i k1 k5 k4
          have h01 : c.vn = 0 ∨ c.vn = 1 := by
            unfold valOk at hv
            rw [if_neg k1, if_pos k4] at hv
            simp only [Bool.and_eq_true, Bool.or_eq_true, beq_iff_eq] at hv
            exact hv.2
          exact bytes_one (by omega) (by omega)
        · exact esc_bytes _
  · exact fun x hx => by cases hx
theorem enc_small {c : Cell} (h : c.ok = true) : (encL c).length ≤ 1000 := by
  unfold encL
  have h1 := key_small h
  rw [List.length_append]
  split
  · rename_i hk
    have := plain_len c.vk c.vn c.vs (val_of_put h hk)
    unfold valL
    rw [List.length_cons]
    omega
  · simp; omega
/-- A number's bytes; none of one below 0. -/
def numV (n : Int) : List Int := if n < 0 then [] else vlq n.toNat
theorem numx_calls (num : Int) (w : World) (h : isInt num) : Calls Tryd.prog 16 #[.int .i64 num] w (OutB (numV num) w) := by
  unfold isInt at h
  by_cases hn : num < 0
  · refine (numneg_calls num w hn).mono ?_
    rintro e w' ⟨rfl, rfl⟩
    refine ⟨none, 0, 0, rfl, ?_, Below.refl _ _⟩
    unfold numV
    rw [if_pos hn]
    exact Own.nil _ _ _ _ _
  · obtain ⟨k, rfl⟩ := Int.eq_ofNat_of_zero_le (by omega : 0 ≤ num)
    have e : numV (k : Int) = vlq k := by unfold numV; rw [if_neg hn]; rfl
    rw [e]
    exact num_calls k w (by omega)
theorem numV_len (num : Int) (h : isInt num) : (numV num).length ≤ 9 := by
  unfold isInt at h
  unfold numV
  split
  · exact Nat.zero_le _
  · exact vlq_len 8 _ (by have h8 : (128 : Nat) ^ (8 + 1) = 9223372036854775808 := by decide
                          rw [h8]; omega)
theorem numV_bytes (num : Int) : Bytes (numV num) := by
  unfold numV
  split
  · exact fun x hx => by cases hx
  · exact vlq_bytes _
theorem numV_neg {num : Int} (h : num < 0) : numV num = [] := by unfold numV; rw [if_pos h]
theorem numV_take {num : Int} (h : ¬ num < 0) (hi : isInt num) : takeV 0 0 (numV num ++ [9]) = some (num.toNat, [9]) := by
  unfold isInt at hi
  unfold numV
  rw [if_neg h]
  exact take_num (by omega) [9]
theorem weigh_all {rows : List BRow} {w : World} (h : ∀ r ∈ rows, BRowOk w r) {k : Nat} (hk : weighL rows ≤ k) {xs : List Int} (hx : xs ∈ rows.map BRow.xs) : xs.length ≤ k := by
  obtain ⟨r, hr, rfl⟩ := List.mem_map.1 hx
  rw [← (h r hr).rd.len]
  exact Nat.le_trans (weigh_mem hr) hk
end Go.Proofs.YtonghiaocpenaaaDoor
