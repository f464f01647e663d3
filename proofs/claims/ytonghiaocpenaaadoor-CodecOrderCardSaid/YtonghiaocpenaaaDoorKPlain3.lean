/-
  Plain: a right cell comes back from its bytes.
-/
import Derived.Test.YtonghiaocpenaaaDoorKPlain2
namespace Go.Proofs.YtonghiaocpenaaaDoor
open Go.RowKit

theorem time_back (t : Int) (h0 : 0 ≤ t) (h1 : t < 9223372036854775808) : timeN (9223372036854775807 - t) = t := by
  unfold timeN
  rw [IntKind.wrap_u64, IntKind.wrap_i64]; omega
theorem time_eight (t : Int) (h0 : 0 ≤ t) (h1 : t < 9223372036854775808) (r : List Int) : timeV (eightL (9223372036854775807 - t) ++ r) = some (t, r) := by
  unfold timeV
  have hl : 8 ≤ (eightL (9223372036854775807 - t) ++ r).length := by rw [List.length_append, eight_len]; omega
  rw [if_pos hl, List.take_append_of_le_length (by rw [eight_len]; exact Nat.le_refl _), List.take_of_length_le (by rw [eight_len]; exact Nat.le_refl _), be64_eight _ (by omega) (by omega), time_back t h0 h1,
    List.drop_append_of_le_length (by rw [eight_len]; exact Nat.le_refl _), List.drop_of_length_le (by rw [eight_len]; exact Nat.le_refl _)]
  rfl
theorem zero_parts {c : Cell} (h : zeroOk c = true) : c.vk = 0 ∧ c.vn = 0 ∧ c.vs = ⟨#[]⟩ := by
  unfold zeroOk at h
  simp only [Bool.and_eq_true, beq_iff_eq] at h
  have h3 := h.2.2
  rw [str_empty] at h3
  exact ⟨h.1, h.2.1, nil_size (of_decide_eq_true h3)⟩
/-- What is told of a right cell's value comes back. -/
theorem cellW_back (c : Cell) (hok : c.ok = true) (hn : isInt c.vn) : cellW (if c.kind = 1 then valL c.vk c.vn c.vs else []) = some (c.vk, c.vn, c.vs) := by
  have hk := (ok_parts hok).2.2.2.2.2.2
  unfold cellW
  by_cases h1 : c.kind = 1
  · rw [if_pos h1, if_neg (by unfold valL; simp)]
    show (takenV c.vk (plainL c.vk c.vn c.vs)).map (fun p => (c.vk, p.1, p.2)) = _
    rw [taken_back _ _ _ hn (val_of_put hok h1)]
    rfl
  · rw [if_neg h1, if_pos rfl]
    have hz : zeroOk c = true := by
      unfold kindOk at hk
      rw [if_neg h1] at hk
      split at hk
      · exact hk
      · split at hk
        · exact hk
        · split at hk
          · exact (Bool.and_eq_true _ _ ▸ hk).1
          · cases hk
    obtain ⟨e1, e2, e3⟩ := zero_parts hz
    rw [e1, e2, e3]
theorem cell_back (c : Cell) (hok : c.ok = true) (hn : isInt c.vn) : cellV (encL c) = some c := by
  obtain ⟨hr0, hr1, hf, hq, ht0, ht1, hk⟩ := ok_parts hok
  have hW := cellW_back c hok hn
  obtain ⟨V, hV⟩ : ∃ V, V = (if c.kind = 1 then valL c.vk c.vn c.vs else []) := ⟨_, rfl⟩
  rw [← hV] at hW
  have e : encL c = escL c.row ++ (escL c.fam ++ ((if c.kind = 4 then [0, 0] else escL c.qual) ++ (eightL (9223372036854775807 - c.time) ++ (255 - c.kind) :: V))) := by
    unfold encL keyL
    rw [← hV]
    simp [List.append_assoc]
  have hqv : readV [] ((if c.kind = 4 then [0, 0] else escL c.qual) ++ (eightL (9223372036854775807 - c.time) ++ (255 - c.kind) :: V)) = some (if c.kind = 4 then none else some (numL c.qual.data.toList), eightL (9223372036854775807 - c.time) ++ (255 - c.kind) :: V) := by
    by_cases h4 : c.kind = 4
    · rw [if_pos h4, if_pos h4]
      show readV [] (0 :: 0 :: _) = _
      rw [readV_mark, readZ, if_neg (by decide), if_pos rfl, if_pos rfl]
      rfl
    · rw [if_neg h4, if_neg h4, read_esc]
  have hqq : ofL ((if c.kind = 4 then none else some (numL c.qual.data.toList)).getD []) = c.qual ∧ (if c.kind = 4 then none else some (numL c.qual.data.toList)).isNone = decide (c.kind = 4) := by
    by_cases h4 : c.kind = 4
    · rw [if_pos h4]
      have hs : c.qual.size = 0 := by
        unfold kindOk at hk
        rw [if_neg (by omega), if_neg (by omega), if_neg (by omega), if_pos h4] at hk
        have := (Bool.and_eq_true _ _ ▸ hk).2
        simpa using this
      exact ⟨(nil_size hs).symm, by rw [decide_eq_true h4]; rfl⟩
    · rw [if_neg h4]
      exact ⟨of_num _, by rw [decide_eq_false h4]; rfl⟩
  unfold cellV
  rw [e, read_esc]
  simp only [Option.bind_some]
  rw [read_esc]
  simp only [Option.bind_some]
  rw [hqv]
  simp only [Option.bind_some]
  rw [if_pos ⟨rfl, rfl⟩, time_eight c.time ht0 (by omega)]
  simp only [Option.bind_some, List.head?_cons, List.tail_cons]
  rw [hW]
  simp only [Option.bind_some]
  rw [hqq.1]
  have e255 : 255 - (255 - c.kind) = c.kind := by omega
  rw [e255, hqq.2]
  simp only [Option.getD_some]
  rw [of_num, of_num]
  have hc : (⟨c.row, c.fam, c.qual, c.time, c.kind, c.vk, c.vn, c.vs⟩ : Cell) = c := rfl
  rw [hc, if_pos ⟨hok, trivial⟩]
end Go.Proofs.YtonghiaocpenaaaDoor
