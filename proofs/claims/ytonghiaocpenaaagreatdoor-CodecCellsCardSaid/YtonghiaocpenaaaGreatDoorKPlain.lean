/-
  Plain: what is written is read again.
  Plain: values and cells come back from their bytes.
  Plain: a right cell comes back from its bytes.
-/
import Derived.Test.YtonghiaocpenaaaGreatDoorKDecode
namespace Go.Proofs.YtonghiaocpenaaaGreatDoor
open Go.RowKit

theorem readV_esc : ∀ (l : List UInt8) (out r : List Int), readV out (l.flatMap esc1 ++ 0 :: 1 :: r) = some (some (out ++ numL l), r)
  | [], out, r => by
    rw [List.flatMap_nil, List.nil_append, readV_mark, readZ, if_pos rfl]
    simp [numL]
  | c :: l, out, r => by
    rw [List.flatMap_cons]
    by_cases hc : c = 0
    · subst hc
      have e : esc1 0 = [0, 255] := rfl
      rw [e, List.append_assoc]
      show readV out (0 :: 255 :: (l.flatMap esc1 ++ 0 :: 1 :: r)) = _
      rw [readV_mark, readZ, if_neg (by decide), if_neg (by decide), if_pos rfl, readV_esc l, List.append_assoc]
      rfl
    · have e : esc1 c = [(c.toNat : Int)] := by unfold esc1; rw [if_neg hc]
      have hne : (c.toNat : Int) ≠ 0 := fun h => hc (UInt8.toNat_inj.1 (by show c.toNat = 0; omega))
      rw [e, List.append_assoc]
      show readV out ((c.toNat : Int) :: (l.flatMap esc1 ++ 0 :: 1 :: r)) = _
      rw [readV_plain hne, readV_esc l, List.append_assoc]
      rfl
/-- A text's escaped bytes are self-ending. -/
theorem read_esc (s : ByteArray) (r : List Int) : readV [] (escL s ++ r) = some (some (numL s.data.toList), r) := by
  unfold escL
  rw [List.append_assoc]
  exact readV_esc _ [] r
theorem esc_inj {s t : ByteArray} {r q : List Int} (h : escL s ++ r = escL t ++ q) : s = t ∧ r = q := by
  have h1 := read_esc s r
  rw [h, read_esc t q] at h1
  injection h1 with h1
  injection h1 with h1 h2
  injection h1 with h1
  refine ⟨?_, h2.symm⟩
  rw [← of_num s, ← of_num t, h1]
/-- A number's bytes are self-ending. -/
theorem take_vlq : ∀ (f n k acc : Nat) (r : List Int), k + f = 9 → n < 128 ^ f → (k = 0 ∨ 0 < n) → takeV k acc (vlq n ++ r) = some (acc + n * 128 ^ k, r)
  | 0, n, k, acc, r, hk, hn, h0 => by
    exfalso
    have : n = 0 := by simpa using hn
    omega
  | f + 1, n, k, acc, r, hk, hn, h0 => by
    by_cases hlt : 127 < n
    · rw [vlq_more hlt, List.cons_append, takeV, if_neg (by omega), if_pos (by omega)]
      have e : (((n % 128 + 128 : Nat) : Int) % 128).toNat = n % 128 := by omega
      rw [e, take_vlq f (n / 128) (k + 1) _ r (by omega) (by rw [Nat.div_lt_iff_lt_mul (by omega), ← Nat.pow_succ]; exact hn) (.inr (by omega))]
      congr 2
      have h2 := Nat.div_add_mod n 128
      have h3 : n * 128 ^ k = (128 * (n / 128)) * 128 ^ k + (n % 128) * 128 ^ k := by rw [← Nat.add_mul, h2]
      have h4 : n / 128 * 128 ^ (k + 1) = (128 * (n / 128)) * 128 ^ k := by rw [Nat.pow_succ, Nat.mul_comm 128 (n / 128), Nat.mul_assoc, Nat.mul_comm (128 ^ k) 128]
      omega
    · rw [vlq_last hlt]
      show takeV k acc ((n : Int) :: r) = _
      rw [takeV, if_neg (by omega), if_neg (by omega), if_neg (by omega)]
      simp
theorem take_num {n : Nat} (h : n < 9223372036854775808) (r : List Int) : takeV 0 0 (vlq n ++ r) = some (n, r) := by
  have h8 : (128 : Nat) ^ 9 = 9223372036854775808 := by decide
  have := take_vlq 9 n 0 0 r rfl (by rw [h8]; exact h) (.inl rfl)
  simpa using this
end Go.Proofs.YtonghiaocpenaaaGreatDoor
namespace Go.Proofs.YtonghiaocpenaaaGreatDoor
open Go.RowKit

theorem be64_eight (u : Int) (h0 : 0 ≤ u) (h1 : u < 18446744073709551616) : be64 (eightL u) = u := by
  have e0 : (0 : Int) * 256 % 18446744073709551616 + u / 72057594037927936 = u / 72057594037927936 := by omega
  have e1 : (u / 72057594037927936) * 256 % 18446744073709551616 + u / 281474976710656 % 256 = u / 281474976710656 := by omega
  have e2 : (u / 281474976710656) * 256 % 18446744073709551616 + u / 1099511627776 % 256 = u / 1099511627776 := by omega
  have e3 : (u / 1099511627776) * 256 % 18446744073709551616 + u / 4294967296 % 256 = u / 4294967296 := by omega
  have e4 : (u / 4294967296) * 256 % 18446744073709551616 + u / 16777216 % 256 = u / 16777216 := by omega
  have e5 : (u / 16777216) * 256 % 18446744073709551616 + u / 65536 % 256 = u / 65536 := by omega
  have e6 : (u / 65536) * 256 % 18446744073709551616 + u / 256 % 256 = u / 256 := by omega
  have e7 : (u / 256) * 256 % 18446744073709551616 + u % 256 = u := by omega
  unfold be64 eightL
  simp only [List.foldl_cons, List.foldl_nil]
  rw [e0, e1, e2, e3, e4, e5, e6, e7]
theorem eight_bytes (u : Int) (h0 : 0 ≤ u) (h1 : u < 18446744073709551616) : Bytes (eightL u) := by
  intro x hx
  unfold eightL at hx
  simp only [List.mem_cons, List.not_mem_nil, or_false] at hx
  rcases hx with rfl | rfl | rfl | rfl | rfl | rfl | rfl | rfl <;> omega
theorem eight_len (u : Int) : (eightL u).length = 8 := rfl
theorem rank_back (u : Int) (h0 : 0 ≤ u) (h1 : u < 18446744073709551616) : unrankN (rankN u) = u := by
  unfold unrankN rankN
  by_cases hc : 9223372036854775808 ≤ u
  · rw [if_pos hc, if_neg (by omega)]; omega
  · rw [if_neg hc, if_pos (by omega)]; omega
theorem from_back (n : Int) (hn : isInt n) (hok : floatOk n = true) : fromV (eightL (rankN (n % 18446744073709551616))) = some n := by
  obtain ⟨n0, n1⟩ := hn
  have hr := rank_range (n % 18446744073709551616) (by omega) (by omega)
  have e : IntKind.i64.wrap (unrankN (be64 (eightL (rankN (n % 18446744073709551616))))) = n := by
    rw [be64_eight _ hr.1 hr.2, rank_back _ (by omega) (by omega), IntKind.wrap_i64]; omega
  unfold fromV
  rw [e, if_pos ⟨rfl, hok⟩]
theorem nil_size {s : ByteArray} (h : s.size = 0) : s = ⟨#[]⟩ := by
  have : s.data.toList = [] := List.eq_nil_of_length_eq_zero (by rw [← Lib.size_eq]; exact h)
  have h2 : s.data = #[] := by rw [← Array.toList_inj]; exact this
  cases s with
  | mk d => simp at h2; rw [h2]
/-- A right value comes back from its bytes. -/
theorem taken_back (k n : Int) (s : ByteArray) (hn : isInt n) (hok : valOk k n s = true) : takenV k (plainL k n s) = some (n, s) := by
  obtain ⟨n0, n1⟩ := id hn
  unfold takenV plainL
  by_cases k1 : k = 1
  · subst k1
    have hs : s.size = 0 := by simpa [valOk] using hok
    rw [if_pos rfl, if_pos rfl, if_pos (eight_len _), be64_eight _ (by omega) (by omega), xor_top _ (by omega) (by omega), nil_size hs, IntKind.wrap_i64]
    congr 2
    omega
  by_cases k5 : k = 5
  · subst k5
    have hs : s.size = 0 ∧ floatOk n = true := by simpa [valOk] using hok
    rw [if_neg (by decide), if_pos rfl, if_neg (by decide), if_pos rfl, from_back n hn hs.2, nil_size hs.1]
    rfl
  by_cases k4 : k = 4
  · subst k4
    have hs : s.size = 0 ∧ (n = 0 ∨ n = 1) := by simpa [valOk] using hok
    rw [if_neg (by decide), if_neg (by decide), if_pos rfl, if_neg (by decide), if_neg (by decide), if_pos rfl, nil_size hs.1]
    simp only [if_pos hs.2]
  · have hn0 : n = 0 := by
      unfold valOk at hok
      rw [if_neg k1, if_neg k4, if_neg k5] at hok
      split at hok
      · simp at hok; exact hok.1
      · split at hok
        · simp at hok; exact hok.1
        · cases hok
    subst hn0
    have hr := read_esc s []
    rw [List.append_nil] at hr
    rw [if_neg k1, if_neg k5, if_neg k4, if_neg k1, if_neg k5, if_neg k4, hr]
    simp only [of_num]
    rw [if_pos hok]
end Go.Proofs.YtonghiaocpenaaaGreatDoor
namespace Go.Proofs.YtonghiaocpenaaaGreatDoor
open Go.RowKit

theorem time_back (t : Int) (h0 : 0 ≤ t) (h1 : t < 9223372036854775808) : timeN (9223372036854775807 - t) = t := by
  unfold timeN
  rw [IntKind.wrap_u64, IntKind.wrap_i64]; omega
theorem time_eight (t : Int) (h0 : 0 ≤ t) (h1 : t < 9223372036854775808) (r : List Int) : timeV (eightL (9223372036854775807 - t) ++ r) = some (t, r) := by
  unfold timeV
  have hl : 8 ≤ (eightL (9223372036854775807 - t) ++ r).length := by rw [List.length_append, eight_len]; omega
  rw [if_pos hl, List.take_append_of_le_length (by rw [eight_len]; exact Nat.le_refl _), List.take_of_length_le (by rw [eight_len]; exact Nat.le_refl _), be64_eight _ (by omega) (by omega), time_back t h0 h1,
    List.drop_append_of_le_length (by rw [eight_len]; exact Nat.le_refl _), List.drop_of_length_le (by rw [eight_len]; exact Nat.le_refl _)]
  rfl
theorem zero_parts {c : Cell} (h : zeroOk c = true) : c.vk = 0 ∧ c.vn = 0 ∧ c.vs = ⟨#[]⟩ := by
  unfold zeroOk at h
  simp only [Bool.and_eq_true, beq_iff_eq] at h
  have h3 := h.2.2
  rw [str_empty] at h3
  exact ⟨h.1, h.2.1, nil_size (of_decide_eq_true h3)⟩
/-- What is told of a right cell's value comes back. -/
theorem cellW_back (c : Cell) (hok : c.ok = true) (hn : isInt c.vn) : cellW (if c.kind = 1 then valL c.vk c.vn c.vs else []) = some (c.vk, c.vn, c.vs) := by
  have hk := (ok_parts hok).2.2.2.2.2.2
  unfold cellW
  by_cases h1 : c.kind = 1
  · rw [if_pos h1, if_neg (by unfold valL; simp)]
    show (takenV c.vk (plainL c.vk c.vn c.vs)).map (fun p => (c.vk, p.1, p.2)) = _
    rw [taken_back _ _ _ hn (val_of_put hok h1)]
    rfl
  · rw [if_neg h1, if_pos rfl]
    have hz : zeroOk c = true := by
      unfold kindOk at hk
      rw [if_neg h1] at hk
      split at hk
      · exact hk
      · split at hk
        · exact hk
        · split at hk
          · exact (Bool.and_eq_true _ _ ▸ hk).1
          · cases hk
    obtain ⟨e1, e2, e3⟩ := zero_parts hz
    rw [e1, e2, e3]
theorem cell_back (c : Cell) (hok : c.ok = true) (hn : isInt c.vn) : cellV (encL c) = some c := by
  obtain ⟨hr0, hr1, hf, hq, ht0, ht1, hk⟩ := ok_parts hok
  have hW := cellW_back c hok hn
  obtain ⟨V, hV⟩ : ∃ V, V = (if c.kind = 1 then valL c.vk c.vn c.vs else []) := ⟨_, rfl⟩
  rw [← hV] at hW
  have e : encL c = escL c.row ++ (escL c.fam ++ ((if c.kind = 4 then [0, 0] else escL c.qual) ++ (eightL (9223372036854775807 - c.time) ++ (255 - c.kind) :: V))) := by
    unfold encL keyL
    rw [← hV]
    simp [List.append_assoc]
  have hqv : readV [] ((if c.kind = 4 then [0, 0] else escL c.qual) ++ (eightL (9223372036854775807 - c.time) ++ (255 - c.kind) :: V)) = some (if c.kind = 4 then none else some (numL c.qual.data.toList), eightL (9223372036854775807 - c.time) ++ (255 - c.kind) :: V) := by
    by_cases h4 : c.kind = 4
    · rw [if_pos h4, if_pos h4]
      show readV [] (0 :: 0 :: _) = _
      rw [readV_mark, readZ, if_neg (by decide), if_pos rfl, if_pos rfl]
      rfl
    · rw [if_neg h4, if_neg h4, read_esc]
  have hqq : ofL ((if c.kind = 4 then none else some (numL c.qual.data.toList)).getD []) = c.qual ∧ (if c.kind = 4 then none else some (numL c.qual.data.toList)).isNone = decide (c.kind = 4) := by
    by_cases h4 : c.kind = 4
    · rw [if_pos h4]
      have hs : c.qual.size = 0 := by
        unfold kindOk at hk
        rw [if_neg (by omega), if_neg (by omega), if_neg (by omega), if_pos h4] at hk
        have := (Bool.and_eq_true _ _ ▸ hk).2
        simpa using this
      exact ⟨(nil_size hs).symm, by rw [decide_eq_true h4]; rfl⟩
    · rw [if_neg h4]
      exact ⟨of_num _, by rw [decide_eq_false h4]; rfl⟩
  unfold cellV
  rw [e, read_esc]
  simp only [Option.bind_some]
  rw [read_esc]
  simp only [Option.bind_some]
  rw [hqv]
  simp only [Option.bind_some]
  rw [if_pos ⟨rfl, rfl⟩, time_eight c.time ht0 (by omega)]
  simp only [Option.bind_some, List.head?_cons, List.tail_cons]
  rw [hW]
  simp only [Option.bind_some]
  rw [hqq.1]
  have e255 : 255 - (255 - c.kind) = c.kind := by omega
  rw [e255, hqq.2]
  simp only [Option.getD_some]
  rw [of_num, of_num]
  have hc : (⟨c.row, c.fam, c.qual, c.time, c.kind, c.vk, c.vn, c.vs⟩ : Cell) = c := rfl
  rw [hc, if_pos ⟨hok, trivial⟩]
end Go.Proofs.YtonghiaocpenaaaGreatDoor
