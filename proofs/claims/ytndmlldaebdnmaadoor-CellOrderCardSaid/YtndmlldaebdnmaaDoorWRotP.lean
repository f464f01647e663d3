/-
  What a rotation does, in plain Lean.
-/
import Derived.Test.YtndmlldaebdnmaaDoorWSwap
namespace Go.Proofs.YtndmlldaebdnmaaDoor
open Go.RowKit

theorem swapC_get (zs : List Cell) (i j : Nat) (hij : i < j) (hj : j < zs.length) (p : Nat) : (swapC zs i j)[p]? = if p = i then zs[j]? else if p = j then zs[i]? else zs[p]? := by
  unfold swapC
  rw [List.getElem?_set, List.getElem?_set, List.length_set]
  have e1 : zs.getD j nilC = zs[j] := by rw [List.getD_eq_getElem?_getD, List.getElem?_eq_getElem hj]; rfl
  have e2 : zs.getD i nilC = zs[i] := by rw [List.getD_eq_getElem?_getD, List.getElem?_eq_getElem (by omega)]; rfl
  rw [e1, e2, List.getElem?_eq_getElem hj, List.getElem?_eq_getElem (show i < zs.length by omega)]
  by_cases h1 : j = p
  · subst h1
    rw [if_pos rfl, if_pos hj, if_neg (by omega), if_pos rfl]
  · rw [if_neg h1]
    by_cases h2 : i = p
    · subst h2
      rw [if_pos rfl, if_pos (by omega), if_pos rfl]
    · rw [if_neg h2, if_neg (fun e => h2 e.symm), if_neg (fun e => h1 e.symm)]
theorem swapsC_get (xs : List Cell) (a b : Nat) : ∀ (k : Nat), a + k ≤ b → b + k ≤ xs.length → ∀ p, (swapsC xs a b k)[p]? = if a ≤ p ∧ p < a + k then xs[p - a + b]? else if b ≤ p ∧ p < b + k then xs[p - b + a]? else xs[p]?
  | 0, _, _, p => by rw [swapsC, if_neg (by omega), if_neg (by omega)]
  | k + 1, h1, h2, p => by
    have ih := swapsC_get xs a b k (by omega) (by omega)
    rw [swapsC, swapC_get _ _ _ (by omega) (by rw [swapsC_len]; omega), ih, ih, ih]
    by_cases c1 : p = a + k
    · subst c1
      rw [if_pos rfl, if_neg (by omega), if_neg (by omega), if_pos (by omega)]
      congr 1
      omega
    · rw [if_neg c1]
      by_cases c2 : p = b + k
      · subst c2
        rw [if_pos rfl, if_neg (by omega), if_neg (by omega), if_neg (by omega), if_pos (by omega)]
        congr 1
        omega
      · rw [if_neg c2]
        by_cases c3 : a ≤ p ∧ p < a + k
        · rw [if_pos c3, if_pos (by omega)]
        · rw [if_neg c3, if_neg (show ¬ (a ≤ p ∧ p < a + (k + 1)) by omega)]
          by_cases c4 : b ≤ p ∧ p < b + k
          · rw [if_pos c4, if_pos (by omega)]
          · rw [if_neg c4, if_neg (by omega)]
/-- Two parts of one length in each other's stead. -/
theorem swaps_parts (L X M Y R : List Cell) (a b k : Nat) (ha : a = L.length) (hb : b = L.length + X.length + M.length) (hx : X.length = k) (hy : Y.length = k) :
    swapsC (L ++ X ++ M ++ Y ++ R) a b k = L ++ Y ++ M ++ X ++ R := by
  apply List.ext_getElem?
  intro p
  rw [swapsC_get _ _ _ _ (by omega) (by simp only [List.length_append]; omega)]
  subst ha hb
  simp only [List.getElem?_append, List.length_append]
  repeat' split
  all_goals first
    | omega
    | rfl
    | (congr 1; omega)
end Go.Proofs.YtndmlldaebdnmaaDoor
