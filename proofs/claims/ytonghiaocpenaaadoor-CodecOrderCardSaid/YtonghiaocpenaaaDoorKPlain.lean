/-
  Plain: what is written is read again.
-/
import Derived.Test.YtonghiaocpenaaaDoorKDecode
namespace Go.Proofs.YtonghiaocpenaaaDoor
open Go.RowKit

theorem readV_esc : ∀ (l : List UInt8) (out r : List Int), readV out (l.flatMap esc1 ++ 0 :: 1 :: r) = some (some (out ++ numL l), r)
  | [], out, r => by
    rw [List.flatMap_nil, List.nil_append, readV_mark, readZ, if_pos rfl]
    simp [numL]
  | c :: l, out, r => by
    rw [List.flatMap_cons]
    by_cases hc : c = 0
    · subst hc
      have e : esc1 0 = [0, 255] := rfl
      rw [e, List.append_assoc]
      show readV out (0 :: 255 :: (l.flatMap esc1 ++ 0 :: 1 :: r)) = _
      rw [readV_mark, readZ, if_neg (by decide), if_neg (by decide), if_pos rfl, readV_esc l, List.append_assoc]
      rfl
    · have e : esc1 c = [(c.toNat : Int)] := by unfold esc1; rw [if_neg hc]
      have hne : (c.toNat : Int) ≠ 0 := fun h => hc (UInt8.toNat_inj.1 (by show c.toNat = 0; omega))
      rw [e, List.append_assoc]
      show readV out ((c.toNat : Int) :: (l.flatMap esc1 ++ 0 :: 1 :: r)) = _
      rw [readV_plain hne, readV_esc l, List.append_assoc]
      rfl
/-- A text's escaped bytes are self-ending. -/
theorem read_esc (s : ByteArray) (r : List Int) : readV [] (escL s ++ r) = some (some (numL s.data.toList), r) := by
  unfold escL
  rw [List.append_assoc]
  exact readV_esc _ [] r
theorem esc_inj {s t : ByteArray} {r q : List Int} (h : escL s ++ r = escL t ++ q) : s = t ∧ r = q := by
  have h1 := read_esc s r
  rw [h, read_esc t q] at h1
  injection h1 with h1
  injection h1 with h1 h2
  injection h1 with h1
  refine ⟨?_, h2.symm⟩
  rw [← of_num s, ← of_num t, h1]
/-- A number's bytes are self-ending. -/
theorem take_vlq : ∀ (f n k acc : Nat) (r : List Int), k + f = 9 → n < 128 ^ f → (k = 0 ∨ 0 < n) → takeV k acc (vlq n ++ r) = some (acc + n * 128 ^ k, r)
  | 0, n, k, acc, r, hk, hn, h0 => by
    exfalso
    have : n = 0 := by simpa using hn
    omega
  | f + 1, n, k, acc, r, hk, hn, h0 => by
    by_cases hlt : 127 < n
    · rw [vlq_more hlt, List.cons_append, takeV, if_neg (by omega), if_pos (by omega)]
      have e : (((n % 128 + 128 : Nat) : Int) % 128).toNat = n % 128 := by omega
      rw [e, take_vlq f (n / 128) (k + 1) _ r (by omega) (by rw [Nat.div_lt_iff_lt_mul (by omega), ← Nat.pow_succ]; exact hn) (.inr (by omega))]
      congr 2
      have h2 := Nat.div_add_mod n 128
      have h3 : n * 128 ^ k = (128 * (n / 128)) * 128 ^ k + (n % 128) * 128 ^ k := by rw [← Nat.add_mul, h2]
      have h4 : n / 128 * 128 ^ (k + 1) = (128 * (n / 128)) * 128 ^ k := by rw [Nat.pow_succ, Nat.mul_comm 128 (n / 128), Nat.mul_assoc, Nat.mul_comm (128 ^ k) 128]
      omega
    · rw [vlq_last hlt]
      show takeV k acc ((n : Int) :: r) = _
      rw [takeV, if_neg (by omega), if_neg (by omega), if_neg (by omega)]
      simp
theorem take_num {n : Nat} (h : n < 9223372036854775808) (r : List Int) : takeV 0 0 (vlq n ++ r) = some (n, r) := by
  have h8 : (128 : Nat) ^ 9 = 9223372036854775808 := by decide
  have := take_vlq 9 n 0 0 r rfl (by rw [h8]; exact h) (.inl rfl)
  simpa using this
end Go.Proofs.YtonghiaocpenaaaDoor
