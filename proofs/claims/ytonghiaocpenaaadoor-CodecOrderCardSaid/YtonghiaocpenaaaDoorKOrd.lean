/-
  Plain: keys are in order as their cells are.
-/
import Derived.Test.YtonghiaocpenaaaDoorKPlain3
namespace Go.Proofs.YtonghiaocpenaaaDoor
open Go.RowKit

/-- A key begins with a row's first bytes just if the row is its own. -/
theorem first_key (row : ByteArray) (c : Cell) : (∃ r, firstL row ++ r = keyL c) ↔ row = c.row := by
  constructor
  · rintro ⟨r, h⟩
    unfold firstL keyL at h
    exact (esc_inj h).1
  · rintro rfl
    exact ⟨_, rfl⟩
/-- Bytes in order. -/
def cmpL : List Int → List Int → Int
  | [], [] => 0
  | [], _ :: _ => -1
  | _ :: _, [] => 1
  | x :: xs, y :: ys => if x < y then -1 else if y < x then 1 else cmpL xs ys
theorem cmpL_same (x : Int) (xs ys : List Int) : cmpL (x :: xs) (x :: ys) = cmpL xs ys := by
  rw [cmpL, if_neg (Int.lt_irrefl x), if_neg (Int.lt_irrefl x)]
theorem cmpL_below {x y : Int} (xs ys : List Int) (h : x < y) : cmpL (x :: xs) (y :: ys) = -1 := by rw [cmpL, if_pos h]
theorem cmpL_above {x y : Int} (xs ys : List Int) (h : y < x) : cmpL (x :: xs) (y :: ys) = 1 := by rw [cmpL, if_neg (by omega), if_pos h]
theorem esc1_head (c : UInt8) : ∃ t, esc1 c = (c.toNat : Int) :: t := by
  by_cases hc : c = 0
  · subst hc; exact ⟨[255], rfl⟩
  · exact ⟨[], by unfold esc1; rw [if_neg hc]⟩
theorem cmp_esc : ∀ (a b : List UInt8) (r q : List Int), cmpL (a.flatMap esc1 ++ 0 :: 1 :: r) (b.flatMap esc1 ++ 0 :: 1 :: q) = if Lib.compareBytes a b = 0 then cmpL r q else Lib.compareBytes a b
  | [], [], r, q => by
    simp only [List.flatMap_nil, List.nil_append]
    rw [cmpL_same, cmpL_same]; rfl
  | [], d :: b, r, q => by
    have e : Lib.compareBytes [] (d :: b) = -1 := rfl
    rw [e, if_neg (by decide), List.flatMap_nil, List.nil_append, List.flatMap_cons]
    by_cases hd : d = 0
    · subst hd
      show cmpL (0 :: 1 :: r) (0 :: 255 :: _) = -1
      rw [cmpL_same, cmpL_below _ _ (by decide)]
    · have e1 : esc1 d = [(d.toNat : Int)] := by unfold esc1; rw [if_neg hd]
      have hne : d.toNat ≠ 0 := fun h => hd (UInt8.toNat_inj.1 h)
      rw [e1]
      show cmpL (0 :: 1 :: r) ((d.toNat : Int) :: _) = -1
      rw [cmpL_below _ _ (by omega)]
  | c :: a, [], r, q => by
    have e : Lib.compareBytes (c :: a) [] = 1 := rfl
    rw [e, if_neg (by decide), List.flatMap_nil, List.nil_append, List.flatMap_cons]
    by_cases hd : c = 0
    · subst hd
      show cmpL (0 :: 255 :: _) (0 :: 1 :: q) = 1
      rw [cmpL_same, cmpL_above _ _ (by decide)]
    · have e1 : esc1 c = [(c.toNat : Int)] := by unfold esc1; rw [if_neg hd]
      have hne : c.toNat ≠ 0 := fun h => hd (UInt8.toNat_inj.1 h)
      rw [e1]
      show cmpL ((c.toNat : Int) :: _) (0 :: 1 :: q) = 1
      rw [cmpL_above _ _ (by omega)]
  | c :: a, d :: b, r, q => by
    rw [List.flatMap_cons, List.flatMap_cons]
    by_cases hcd : c = d
    · subst hcd
      have e : Lib.compareBytes (c :: a) (c :: b) = Lib.compareBytes a b := by simp [Lib.compareBytes]
      rw [e, ← cmp_esc a b r q]
      by_cases hd : c = 0
      · subst hd
        show cmpL (0 :: 255 :: _) (0 :: 255 :: _) = _
        rw [cmpL_same, cmpL_same]
        rfl
      · have e1 : esc1 c = [(c.toNat : Int)] := by unfold esc1; rw [if_neg hd]
        rw [e1]
        show cmpL ((c.toNat : Int) :: _) ((c.toNat : Int) :: _) = _
        rw [cmpL_same]
        rfl
    · obtain ⟨t1, e1⟩ := esc1_head c
      obtain ⟨t2, e2⟩ := esc1_head d
      have hne : c.toNat ≠ d.toNat := fun h => hcd (UInt8.toNat_inj.1 h)
      rw [e1, e2]
      show cmpL ((c.toNat : Int) :: _) ((d.toNat : Int) :: _) = _
      by_cases hlt : c.toNat < d.toNat
      · have h1 : c < d := UInt8.lt_iff_toNat_lt.2 hlt
        have e : Lib.compareBytes (c :: a) (d :: b) = -1 := by rw [Lib.compareBytes, if_pos h1]
        rw [e, if_neg (by decide), cmpL_below _ _ (by omega)]
      · have h1 : ¬ c < d := fun h => hlt (UInt8.lt_iff_toNat_lt.1 h)
        have h2 : d < c := UInt8.lt_iff_toNat_lt.2 (by omega)
        have e : Lib.compareBytes (c :: a) (d :: b) = 1 := by rw [Lib.compareBytes, if_neg h1, if_pos h2]
        rw [e, if_neg (by decide), cmpL_above _ _ (by omega)]
/-- Texts, escaped, are in order as they are. -/
theorem cmp_escL (s t : ByteArray) (r q : List Int) : cmpL (escL s ++ r) (escL t ++ q) = if cmpS s t = 0 then cmpL r q else cmpS s t := by
  unfold escL cmpS
  rw [List.append_assoc, List.append_assoc]
  exact cmp_esc _ _ r q
end Go.Proofs.YtonghiaocpenaaaDoor
