/-
  Plain: numbers' bytes are in order as the numbers are; keys as their cells.
-/
import Derived.Test.YtonghiaocpenaaaDoorKOrd
namespace Go.Proofs.YtonghiaocpenaaaDoor
open Go.RowKit

def valF : List Int → Int
  | [] => 0
  | c :: r => c * ((256 ^ r.length : Nat) : Int) + valF r
theorem valF_range : ∀ (x : List Int), Bytes x → 0 ≤ valF x ∧ valF x < ((256 ^ x.length : Nat) : Int)
  | [], _ => ⟨Int.le_refl _, by decide⟩
  | c :: r, h => by
    obtain ⟨h0, h1⟩ := h c (by simp)
    obtain ⟨r0, r1⟩ := valF_range r (fun x hx => h x (List.mem_cons_of_mem _ hx))
    have hp : ((256 ^ (c :: r).length : Nat) : Int) = 256 * ((256 ^ r.length : Nat) : Int) := by rw [List.length_cons, Nat.pow_succ]; omega
    rw [hp, valF]
    generalize ((256 ^ r.length : Nat) : Int) = P at *
    have h2 : 0 ≤ c * P := Int.mul_nonneg h0 (by omega)
    have h3 : c * P ≤ 255 * P := Int.mul_le_mul_of_nonneg_right (by omega) (by omega)
    omega
theorem cmpL_num : ∀ (x y r q : List Int), Bytes x → Bytes y → x.length = y.length → cmpL (x ++ r) (y ++ q) = if valF x < valF y then -1 else if valF y < valF x then 1 else cmpL r q
  | [], [], r, q, _, _, _ => by simp [valF]
  | [], _ :: _, _, _, _, _, h => by simp at h
  | _ :: _, [], _, _, _, _, h => by simp at h
  | a :: x, b :: y, r, q, hx, hy, h => by
    have hl : x.length = y.length := by simpa using h
    obtain ⟨a0, a1⟩ := hx a (by simp)
    obtain ⟨b0, b1⟩ := hy b (by simp)
    have hx' : Bytes x := fun z hz => hx z (List.mem_cons_of_mem _ hz)
    have hy' : Bytes y := fun z hz => hy z (List.mem_cons_of_mem _ hz)
    obtain ⟨x0, x1⟩ := valF_range x hx'
    obtain ⟨y0, y1⟩ := valF_range y hy'
    have ih := cmpL_num x y r q hx' hy' hl
    rw [hl] at x1
    rw [valF, valF, hl]
    show cmpL (a :: (x ++ r)) (b :: (y ++ q)) = _
    generalize ((256 ^ y.length : Nat) : Int) = P at *
    rcases Int.lt_trichotomy a b with hab | hab | hab
    · have h1 : a * P + P ≤ b * P := by
        have := Int.mul_le_mul_of_nonneg_right (show a + 1 ≤ b by omega) (show 0 ≤ P by omega)
        rw [Int.add_mul, Int.one_mul] at this
        exact this
      rw [cmpL_below _ _ hab, if_pos (by omega)]
    · subst hab
      rw [cmpL_same, ih]
      have e1 : (a * P + valF x < a * P + valF y) ↔ valF x < valF y := by constructor <;> intro h <;> omega
      have e2 : (a * P + valF y < a * P + valF x) ↔ valF y < valF x := by constructor <;> intro h <;> omega
      simp only [e1, e2]
    · have h1 : b * P + P ≤ a * P := by
        have := Int.mul_le_mul_of_nonneg_right (show b + 1 ≤ a by omega) (show 0 ≤ P by omega)
        rw [Int.add_mul, Int.one_mul] at this
        exact this
      rw [cmpL_above _ _ hab, if_neg (by omega), if_pos (by omega)]
theorem valF_eight (u : Int) : valF (eightL u) = u := by
  unfold eightL
  simp only [valF, List.length_cons, List.length_nil]
  have e7 : ((256 ^ (0 + 1 + 1 + 1 + 1 + 1 + 1 + 1) : Nat) : Int) = 72057594037927936 := by decide
  have e6 : ((256 ^ (0 + 1 + 1 + 1 + 1 + 1 + 1) : Nat) : Int) = 281474976710656 := by decide
  have e5 : ((256 ^ (0 + 1 + 1 + 1 + 1 + 1) : Nat) : Int) = 1099511627776 := by decide
  have e4 : ((256 ^ (0 + 1 + 1 + 1 + 1) : Nat) : Int) = 4294967296 := by decide
  have e3 : ((256 ^ (0 + 1 + 1 + 1) : Nat) : Int) = 16777216 := by decide
  have e2 : ((256 ^ (0 + 1 + 1) : Nat) : Int) = 65536 := by decide
  have e1 : ((256 ^ (0 + 1) : Nat) : Int) = 256 := by decide
  have e0 : ((256 ^ 0 : Nat) : Int) = 1 := by decide
  rw [e7, e6, e5, e4, e3, e2, e1, e0]
  have h1 : u / 72057594037927936 * 256 + u / 281474976710656 % 256 = u / 281474976710656 := by omega
  have h2 : u / 281474976710656 * 256 + u / 1099511627776 % 256 = u / 1099511627776 := by omega
  have h3 : u / 1099511627776 * 256 + u / 4294967296 % 256 = u / 4294967296 := by omega
  have h4 : u / 4294967296 * 256 + u / 16777216 % 256 = u / 16777216 := by omega
  have h5 : u / 16777216 * 256 + u / 65536 % 256 = u / 65536 := by omega
  have h6 : u / 65536 * 256 + u / 256 % 256 = u / 256 := by omega
  have h7 : u / 256 * 256 + u % 256 = u := by omega
  omega
theorem cmp_eight (u v : Int) (hu : 0 ≤ u ∧ u < 18446744073709551616) (hv : 0 ≤ v ∧ v < 18446744073709551616) (r q : List Int) : cmpL (eightL u ++ r) (eightL v ++ q) = if u < v then -1 else if v < u then 1 else cmpL r q := by
  rw [cmpL_num _ _ r q (eight_bytes u hu.1 hu.2) (eight_bytes v hv.1 hv.2) rfl, valF_eight, valF_eight]
end Go.Proofs.YtonghiaocpenaaaDoor
