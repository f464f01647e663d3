/-
  Plain: keys are in order as their cells are.
-/
import Derived.Test.YtonghiaocpenaaaDoorKOrd2
namespace Go.Proofs.YtonghiaocpenaaaDoor
open Go.RowKit

theorem cmp_zero_esc (t : ByteArray) (r q : List Int) : cmpL (0 :: 0 :: r) (escL t ++ q) = -1 ∧ cmpL (escL t ++ q) (0 :: 0 :: r) = 1 := by
  unfold escL
  cases ht : t.data.toList with
  | nil =>
    constructor
    · show cmpL (0 :: 0 :: r) (0 :: 1 :: q) = -1
      rw [cmpL_same, cmpL_below _ _ (by decide)]
    · show cmpL (0 :: 1 :: q) (0 :: 0 :: r) = 1
      rw [cmpL_same, cmpL_above _ _ (by decide)]
  | cons c l =>
    rw [List.flatMap_cons]
    by_cases hc : c = 0
    · subst hc
      constructor
      · show cmpL (0 :: 0 :: r) (0 :: 255 :: _) = -1
        rw [cmpL_same, cmpL_below _ _ (by decide)]
      · show cmpL (0 :: 255 :: _) (0 :: 0 :: r) = 1
        rw [cmpL_same, cmpL_above _ _ (by decide)]
    · have e1 : esc1 c = [(c.toNat : Int)] := by unfold esc1; rw [if_neg hc]
      have hne : c.toNat ≠ 0 := fun h => hc (UInt8.toNat_inj.1 h)
      rw [e1]
      constructor
      · show cmpL (0 :: 0 :: r) ((c.toNat : Int) :: _) = -1
        rw [cmpL_below _ _ (by omega)]
      · show cmpL ((c.toNat : Int) :: _) (0 :: 0 :: r) = 1
        rw [cmpL_above _ _ (by omega)]
theorem orI_one (x : Int) : orI [x] = x := by
  by_cases h : x = 0
  · subst h; rfl
  · show (if x = 0 then orI [] else x) = x
    rw [if_neg h]
theorem orI_two (x y : Int) : orI [x, y] = if x = 0 then y else x := by
  show (if x = 0 then orI [y] else x) = _
  rw [orI_one]
theorem cmp_tail (ta tb ka kb : Int) (ha : 0 ≤ ta ∧ ta < 9223372036854775808) (hb : 0 ≤ tb ∧ tb < 9223372036854775808) : cmpL (eightL (9223372036854775807 - ta) ++ [255 - ka]) (eightL (9223372036854775807 - tb) ++ [255 - kb]) = orI [cmpI tb ta, cmpI kb ka] := by
  rw [cmp_eight _ _ (by omega) (by omega)]
  have h2 : cmpL [255 - ka] [255 - kb] = cmpI kb ka := by
    unfold cmpI
    by_cases h1 : kb < ka
    · rw [cmpL_below _ _ (by omega), if_pos h1]
    · rw [if_neg h1]
      by_cases h2 : ka < kb
      · rw [cmpL_above _ _ (by omega), if_pos h2]
      · obtain rfl : ka = kb := by omega
        rw [cmpL_same, if_neg h2]; rfl
  rw [h2, orI_two]
  generalize cmpI kb ka = z
  unfold cmpI
  by_cases h1 : tb < ta
  · rw [if_pos (by omega), if_pos h1, if_neg (by decide)]
  · by_cases h3 : ta < tb
    · rw [if_neg (by omega), if_pos (by omega), if_neg h1, if_pos h3, if_neg (by decide)]
    · rw [if_neg (by omega), if_neg (by omega), if_neg h1, if_neg h3, if_pos rfl]
theorem cmpS_self (s : ByteArray) : cmpS s s = 0 := by
  unfold cmpS
  generalize s.data.toList = l
  induction l with
  | nil => rfl
  | cons c l ih => simp [Lib.compareBytes, ih]
theorem orI_cons (x : Int) (l : List Int) : orI (x :: l) = if x = 0 then orI l else x := rfl
/-- Keys are in order as their cells are. -/
theorem cmp_key (a b : Cell) (ha : a.ok = true) (hb : b.ok = true) : cmpL (keyL a) (keyL b) = a.order b := by
  obtain ⟨_, _, _, _, a0, a1, hka⟩ := ok_parts ha
  obtain ⟨_, _, _, _, b0, b1, hkb⟩ := ok_parts hb
  have fam4 : ∀ c : Cell, kindOk c = true → c.kind = 4 → c.qual = ⟨#[]⟩ := fun c hk h4 => by
    unfold kindOk at hk
    rw [if_neg (by omega), if_neg (by omega), if_neg (by omega), if_pos h4] at hk
    have := (Bool.and_eq_true _ _ ▸ hk).2
    exact nil_size (by simpa using this)
  unfold keyL Cell.order
  rw [cmp_escL, orI_cons, orI_cons, orI_cons]
  congr 1
  rw [cmp_escL]
  congr 1
  have ht := cmp_tail a.time b.time a.kind b.kind (by omega) (by omega)
  by_cases h4 : a.kind = 4
  · by_cases h5 : b.kind = 4
    · rw [if_pos h4, if_pos h5, fam4 a hka h4, fam4 b hkb h5]
      have hw : cmpI (wholeI a) (wholeI b) = 0 := by unfold wholeI cmpI; rw [if_pos h4, if_pos h5]; rfl
      rw [hw, if_pos rfl, orI_cons, cmpS_self, if_pos rfl]
      show cmpL (0 :: 0 :: _) (0 :: 0 :: _) = _
      rw [cmpL_same, cmpL_same]
      exact ht
    · have hw : cmpI (wholeI a) (wholeI b) = -1 := by unfold wholeI cmpI; rw [if_pos h4, if_neg h5]; rfl
      rw [if_pos h4, if_neg h5, hw, if_neg (by decide)]
      exact (cmp_zero_esc _ _ _).1
  · by_cases h5 : b.kind = 4
    · have hw : cmpI (wholeI a) (wholeI b) = 1 := by unfold wholeI cmpI; rw [if_neg h4, if_pos h5]; rfl
      rw [if_neg h4, if_pos h5, hw, if_neg (by decide)]
      exact (cmp_zero_esc _ _ _).2
    · have hw : cmpI (wholeI a) (wholeI b) = 0 := by unfold wholeI cmpI; rw [if_neg h4, if_neg h5]; rfl
      rw [if_neg h4, if_neg h5, hw, if_pos rfl, cmp_escL, orI_cons, ht]
end Go.Proofs.YtonghiaocpenaaaDoor
