/-
  Plain: keys are in order as their cells are.
  Plain: numbers' bytes are in order as the numbers are; keys as their cells.
  Plain: keys are in order as their cells are.
-/
import Derived.Test.YtonghiaocpenaaaGreatDoorKPlain
namespace Go.Proofs.YtonghiaocpenaaaGreatDoor
open Go.RowKit

/-- A key begins with a row's first bytes just if the row is its own. -/
theorem first_key (row : ByteArray) (c : Cell) : (∃ r, firstL row ++ r = keyL c) ↔ row = c.row := by
  constructor
  · rintro ⟨r, h⟩
    unfold firstL keyL at h
    exact (esc_inj h).1
  · rintro rfl
    exact ⟨_, rfl⟩
/-- Bytes in order. -/
def cmpL : List Int → List Int → Int
  | [], [] => 0
  | [], _ :: _ => -1
  | _ :: _, [] => 1
  | x :: xs, y :: ys => if x < y then -1 else if y < x then 1 else cmpL xs ys
theorem cmpL_same (x : Int) (xs ys : List Int) : cmpL (x :: xs) (x :: ys) = cmpL xs ys := by
  rw [cmpL, if_neg (Int.lt_irrefl x), if_neg (Int.lt_irrefl x)]
theorem cmpL_below {x y : Int} (xs ys : List Int) (h : x < y) : cmpL (x :: xs) (y :: ys) = -1 := by rw [cmpL, if_pos h]
theorem cmpL_above {x y : Int} (xs ys : List Int) (h : y < x) : cmpL (x :: xs) (y :: ys) = 1 := by rw [cmpL, if_neg (by omega), if_pos h]
theorem esc1_head (c : UInt8) : ∃ t, esc1 c = (c.toNat : Int) :: t := by
  by_cases hc : c = 0
  · subst hc; exact ⟨[255], rfl⟩
  · exact ⟨[], by unfold esc1; rw [if_neg hc]⟩
theorem cmp_esc : ∀ (a b : List UInt8) (r q : List Int), cmpL (a.flatMap esc1 ++ 0 :: 1 :: r) (b.flatMap esc1 ++ 0 :: 1 :: q) = if Lib.compareBytes a b = 0 then cmpL r q else Lib.compareBytes a b
  | [], [], r, q => by
    simp only [List.flatMap_nil, List.nil_append]
    rw [cmpL_same, cmpL_same]; rfl
  | [], d :: b, r, q => by
    have e : Lib.compareBytes [] (d :: b) = -1 := rfl
    rw [e, if_neg (by decide), List.flatMap_nil, List.nil_append, List.flatMap_cons]
    by_cases hd : d = 0
    · subst hd
      show cmpL (0 :: 1 :: r) (0 :: 255 :: _) = -1
      rw [cmpL_same, cmpL_below _ _ (by decide)]
    · have e1 : esc1 d = [(d.toNat : Int)] := by unfold esc1; rw [if_neg hd]
      have hne : d.toNat ≠ 0 := fun h => hd (UInt8.toNat_inj.1 h)
      rw [e1]
      show cmpL (0 :: 1 :: r) ((d.toNat : Int) :: _) = -1
      rw [cmpL_below _ _ (by omega)]
  | c :: a, [], r, q => by
    have e : Lib.compareBytes (c :: a) [] = 1 := rfl
    rw [e, if_neg (by decide), List.flatMap_nil, List.nil_append, List.flatMap_cons]
    by_cases hd : c = 0
    · subst hd
      show cmpL (0 :: 255 :: _) (0 :: 1 :: q) = 1
      rw [cmpL_same, cmpL_above _ _ (by decide)]
    · have e1 : esc1 c = [(c.toNat : Int)] := by unfold esc1; rw [if_neg hd]
      have hne : c.toNat ≠ 0 := fun h => hd (UInt8.toNat_inj.1 h)
      rw [e1]
      show cmpL ((c.toNat : Int) :: _) (0 :: 1 :: q) = 1
      rw [cmpL_above _ _ (by omega)]
  | c :: a, d :: b, r, q => by
    rw [List.flatMap_cons, List.flatMap_cons]
    by_cases hcd : c = d
    · subst hcd
      have e : Lib.compareBytes (c :: a) (c :: b) = Lib.compareBytes a b := by simp [Lib.compareBytes]
      rw [e, ← cmp_esc a b r q]
      by_cases hd : c = 0
      · subst hd
        show cmpL (0 :: 255 :: _) (0 :: 255 :: _) = _
        rw [cmpL_same, cmpL_same]
        rfl
      · have e1 : esc1 c = [(c.toNat : Int)] := by unfold esc1; rw [if_neg hd]
        rw [e1]
        show cmpL ((c.toNat : Int) :: _) ((c.toNat : Int) :: _) = _
        rw [cmpL_same]
        rfl
    · obtain ⟨t1, e1⟩ := esc1_head c
      obtain ⟨t2, e2⟩ := esc1_head d
      have hne : c.toNat ≠ d.toNat := fun h => hcd (UInt8.toNat_inj.1 h)
      rw [e1, e2]
      show cmpL ((c.toNat : Int) :: _) ((d.toNat : Int) :: _) = _
      by_cases hlt : c.toNat < d.toNat
      · have h1 : c < d := UInt8.lt_iff_toNat_lt.2 hlt
        have e : Lib.compareBytes (c :: a) (d :: b) = -1 := by rw [Lib.compareBytes, if_pos h1]
        rw [e, if_neg (by decide), cmpL_below _ _ (by omega)]
      · have h1 : ¬ c < d := fun h => hlt (UInt8.lt_iff_toNat_lt.1 h)
        have h2 : d < c := UInt8.lt_iff_toNat_lt.2 (by omega)
        have e : Lib.compareBytes (c :: a) (d :: b) = 1 := by rw [Lib.compareBytes, if_neg h1, if_pos h2]
        rw [e, if_neg (by decide), cmpL_above _ _ (by omega)]
/-- Texts, escaped, are in order as they are. -/
theorem cmp_escL (s t : ByteArray) (r q : List Int) : cmpL (escL s ++ r) (escL t ++ q) = if cmpS s t = 0 then cmpL r q else cmpS s t := by
  unfold escL cmpS
  rw [List.append_assoc, List.append_assoc]
  exact cmp_esc _ _ r q
end Go.Proofs.YtonghiaocpenaaaGreatDoor
namespace Go.Proofs.YtonghiaocpenaaaGreatDoor
open Go.RowKit

def valF : List Int → Int
  | [] => 0
  | c :: r => c * ((256 ^ r.length : Nat) : Int) + valF r
theorem valF_range : ∀ (x : List Int), Bytes x → 0 ≤ valF x ∧ valF x < ((256 ^ x.length : Nat) : Int)
  | [], _ => ⟨Int.le_refl _, by decide⟩
  | c :: r, h => by
    obtain ⟨h0, h1⟩ := h c (by simp)
    obtain ⟨r0, r1⟩ := valF_range r (fun x hx => h x (List.mem_cons_of_mem _ hx))
    have hp : ((256 ^ (c :: r).length : Nat) : Int) = 256 * ((256 ^ r.length : Nat) : Int) := by rw [List.length_cons, Nat.pow_succ]; omega
    rw [hp, valF]
    generalize ((256 ^ r.length : Nat) : Int) = P at *
    have h2 : 0 ≤ c * P := Int.mul_nonneg h0 (by omega)
    have h3 : c * P ≤ 255 * P := Int.mul_le_mul_of_nonneg_right (by omega) (by omega)
    omega
theorem cmpL_num : ∀ (x y r q : List Int), Bytes x → Bytes y → x.length = y.length → cmpL (x ++ r) (y ++ q) = if valF x < valF y then -1 else if valF y < valF x then 1 else cmpL r q
  | [], [], r, q, _, _, _ => by simp [valF]
  | [], _ :: _, _, _, _, _, h => by simp at h
  | _ :: _, [], _, _, _, _, h => by simp at h
  | a :: x, b :: y, r, q, hx, hy, h => by
    have hl : x.length = y.length := by simpa using h
    obtain ⟨a0, a1⟩ := hx a (by simp)
    obtain ⟨b0, b1⟩ := hy b (by simp)
    have hx' : Bytes x := fun z hz => hx z (List.mem_cons_of_mem _ hz)
    have hy' : Bytes y := fun z hz => hy z (List.mem_cons_of_mem _ hz)
    obtain ⟨x0, x1⟩ := valF_range x hx'
    obtain ⟨y0, y1⟩ := valF_range y hy'
    have ih := cmpL_num x y r q hx' hy' hl
    rw [hl] at x1
    rw [valF, valF, hl]
    show cmpL (a :: (x ++ r)) (b :: (y ++ q)) = _
    generalize ((256 ^ y.length : Nat) : Int) = P at *
    rcases Int.lt_trichotomy a b with hab | hab | hab
    · have h1 : a * P + P ≤ b * P := by
        have := Int.mul_le_mul_of_nonneg_right (show a + 1 ≤ b by omega) (show 0 ≤ P by omega)
        rw [Int.add_mul, Int.one_mul] at this
        exact this
      rw [cmpL_below _ _ hab, if_pos (by omega)]
    · subst hab
      rw [cmpL_same, ih]
      have e1 : (a * P + valF x < a * P + valF y) ↔ valF x < valF y := by constructor <;> intro h <;> omega
      have e2 : (a * P + valF y < a * P + valF x) ↔ valF y < valF x := by constructor <;> intro h <;> omega
      simp only [e1, e2]
    · have h1 : b * P + P ≤ a * P := by
        have := Int.mul_le_mul_of_nonneg_right (show b + 1 ≤ a by omega) (show 0 ≤ P by omega)
        rw [Int.add_mul, Int.one_mul] at this
        exact this
      rw [cmpL_above _ _ hab, if_neg (by omega), if_pos (by omega)]
theorem valF_eight (u : Int) : valF (eightL u) = u := by
  unfold eightL
  simp only [valF, List.length_cons, List.length_nil]
  have e7 : ((256 ^ (0 + 1 + 1 + 1 + 1 + 1 + 1 + 1) : Nat) : Int) = 72057594037927936 := by decide
  have e6 : ((256 ^ (0 + 1 + 1 + 1 + 1 + 1 + 1) : Nat) : Int) = 281474976710656 := by decide
  have e5 : ((256 ^ (0 + 1 + 1 + 1 + 1 + 1) : Nat) : Int) = 1099511627776 := by decide
  have e4 : ((256 ^ (0 + 1 + 1 + 1 + 1) : Nat) : Int) = 4294967296 := by decide
  have e3 : ((256 ^ (0 + 1 + 1 + 1) : Nat) : Int) = 16777216 := by decide
  have e2 : ((256 ^ (0 + 1 + 1) : Nat) : Int) = 65536 := by decide
  have e1 : ((256 ^ (0 + 1) : Nat) : Int) = 256 := by decide
  have e0 : ((256 ^ 0 : Nat) : Int) = 1 := by decide
  rw [e7, e6, e5, e4, e3, e2, e1, e0]
  have h1 : u / 72057594037927936 * 256 + u / 281474976710656 % 256 = u / 281474976710656 := by omega
  have h2 : u / 281474976710656 * 256 + u / 1099511627776 % 256 = u / 1099511627776 := by omega
  have h3 : u / 1099511627776 * 256 + u / 4294967296 % 256 = u / 4294967296 := by omega
  have h4 : u / 4294967296 * 256 + u / 16777216 % 256 = u / 16777216 := by omega
  have h5 : u / 16777216 * 256 + u / 65536 % 256 = u / 65536 := by omega
  have h6 : u / 65536 * 256 + u / 256 % 256 = u / 256 := by omega
  have h7 : u / 256 * 256 + u % 256 = u := by omega
  omega
theorem cmp_eight (u v : Int) (hu : 0 ≤ u ∧ u < 18446744073709551616) (hv : 0 ≤ v ∧ v < 18446744073709551616) (r q : List Int) : cmpL (eightL u ++ r) (eightL v ++ q) = if u < v then -1 else if v < u then 1 else cmpL r q := by
  rw [cmpL_num _ _ r q (eight_bytes u hu.1 hu.2) (eight_bytes v hv.1 hv.2) rfl, valF_eight, valF_eight]
end Go.Proofs.YtonghiaocpenaaaGreatDoor
namespace Go.Proofs.YtonghiaocpenaaaGreatDoor
open Go.RowKit

theorem cmp_zero_esc (t : ByteArray) (r q : List Int) : cmpL (0 :: 0 :: r) (escL t ++ q) = -1 ∧ cmpL (escL t ++ q) (0 :: 0 :: r) = 1 := by
  unfold escL
  cases ht : t.data.toList with
  | nil =>
    constructor
    · show cmpL (0 :: 0 :: r) (0 :: 1 :: q) = -1
      rw [cmpL_same, cmpL_below _ _ (by decide)]
    · show cmpL (0 :: 1 :: q) (0 :: 0 :: r) = 1
      rw [cmpL_same, cmpL_above _ _ (by decide)]
  | cons c l =>
    rw [List.flatMap_cons]
    by_cases hc : c = 0
    · subst hc
      constructor
      · show cmpL (0 :: 0 :: r) (0 :: 255 :: _) = -1
        rw [cmpL_same, cmpL_below _ _ (by decide)]
      · show cmpL (0 :: 255 :: _) (0 :: 0 :: r) = 1
        rw [cmpL_same, cmpL_above _ _ (by decide)]
    · have e1 : esc1 c = [(c.toNat : Int)] := by unfold esc1; rw [if_neg hc]
      have hne : c.toNat ≠ 0 := fun h => hc (UInt8.toNat_inj.1 h)
      rw [e1]
      constructor
      · show cmpL (0 :: 0 :: r) ((c.toNat : Int) :: _) = -1
        rw [cmpL_below _ _ (by omega)]
      · show cmpL ((c.toNat : Int) :: _) (0 :: 0 :: r) = 1
        rw [cmpL_above _ _ (by omega)]
theorem orI_one (x : Int) : orI [x] = x := by
  by_cases h : x = 0
  · subst h; rfl
  · show (if x = 0 then orI [] else x) = x
    rw [if_neg h]
theorem orI_two (x y : Int) : orI [x, y] = if x = 0 then y else x := by
  show (if x = 0 then orI [y] else x) = _
  rw [orI_one]
theorem cmp_tail (ta tb ka kb : Int) (ha : 0 ≤ ta ∧ ta < 9223372036854775808) (hb : 0 ≤ tb ∧ tb < 9223372036854775808) : cmpL (eightL (9223372036854775807 - ta) ++ [255 - ka]) (eightL (9223372036854775807 - tb) ++ [255 - kb]) = orI [cmpI tb ta, cmpI kb ka] := by
  rw [cmp_eight _ _ (by omega) (by omega)]
  have h2 : cmpL [255 - ka] [255 - kb] = cmpI kb ka := by
    unfold cmpI
    by_cases h1 : kb < ka
    · rw [cmpL_below _ _ (by omega), if_pos h1]
    · rw [if_neg h1]
      by_cases h2 : ka < kb
      · rw [cmpL_above _ _ (by omega), if_pos h2]
      · obtain rfl : ka = kb := by omega
        rw [cmpL_same, if_neg h2]; rfl
  rw [h2, orI_two]
  generalize cmpI kb ka = z
  unfold cmpI
  by_cases h1 : tb < ta
  · rw [if_pos (by omega), if_pos h1, if_neg (by decide)]
  · by_cases h3 : ta < tb
    · rw [if_neg (by omega), if_pos (by omega), if_neg h1, if_pos h3, if_neg (by decide)]
    · rw [if_neg (by omega), if_neg (by omega), if_neg h1, if_neg h3, if_pos rfl]
theorem cmpS_self (s : ByteArray) : cmpS s s = 0 := by
  unfold cmpS
  generalize s.data.toList = l
  induction l with
  | nil => rfl
  | cons c l ih => simp [Lib.compareBytes, ih]
theorem orI_cons (x : Int) (l : List Int) : orI (x :: l) = if x = 0 then orI l else x := rfl
/-- Keys are in order as their cells are. -/
theorem cmp_key (a b : Cell) (ha : a.ok = true) (hb : b.ok = true) : cmpL (keyL a) (keyL b) = a.order b := by
  obtain ⟨_, _, _, _, a0, a1, hka⟩ := ok_parts ha
  obtain ⟨_, _, _, _, b0, b1, hkb⟩ := ok_parts hb
  have fam4 : ∀ c : Cell, kindOk c = true → c.kind = 4 → c.qual = ⟨#[]⟩ := fun c hk h4 => by
    unfold kindOk at hk
    rw [if_neg (by omega), if_neg (by omega), if_neg (by omega), if_pos h4] at hk
    have := (Bool.and_eq_true _ _ ▸ hk).2
    exact nil_size (by simpa using this)
  unfold keyL Cell.order
  rw [cmp_escL, orI_cons, orI_cons, orI_cons]
  congr 1
  rw [cmp_escL]
  congr 1
  have ht := cmp_tail a.time b.time a.kind b.kind (by omega) (by omega)
  by_cases h4 : a.kind = 4
  · by_cases h5 : b.kind = 4
    · rw [if_pos h4, if_pos h5, fam4 a hka h4, fam4 b hkb h5]
      have hw : cmpI (wholeI a) (wholeI b) = 0 := by unfold wholeI cmpI; rw [if_pos h4, if_pos h5]; rfl
      rw [hw, if_pos rfl, orI_cons, cmpS_self, if_pos rfl]
      show cmpL (0 :: 0 :: _) (0 :: 0 :: _) = _
      rw [cmpL_same, cmpL_same]
      exact ht
    · have hw : cmpI (wholeI a) (wholeI b) = -1 := by unfold wholeI cmpI; rw [if_pos h4, if_neg h5]; rfl
      rw [if_pos h4, if_neg h5, hw, if_neg (by decide)]
      exact (cmp_zero_esc _ _ _).1
  · by_cases h5 : b.kind = 4
    · have hw : cmpI (wholeI a) (wholeI b) = 1 := by unfold wholeI cmpI; rw [if_neg h4, if_pos h5]; rfl
      rw [if_neg h4, if_pos h5, hw, if_neg (by decide)]
      exact (cmp_zero_esc _ _ _).2
    · have hw : cmpI (wholeI a) (wholeI b) = 0 := by unfold wholeI cmpI; rw [if_neg h4, if_neg h5]; rfl
      rw [if_neg h4, if_neg h5, hw, if_pos rfl, cmp_escL, orI_cons, ht]
end Go.Proofs.YtonghiaocpenaaaGreatDoor
