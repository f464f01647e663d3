/-
  Plain: valid UTF-8, character by character.
-/
import Derived.Test.YtndmlldaebdnmaaDoorJRight
import Derived.Lib.DecodeN
import Derived.Lib.ValidU
namespace Go.Proofs.YtndmlldaebdnmaaDoor
open Go.RowKit

def by_ (s : ByteArray) (i : Nat) : Nat := (s.get! i).toNat
def cont (s : ByteArray) (i : Nat) : Prop := 128 ≤ by_ s i ∧ by_ s i ≤ 191
/-- Is what stands from i on valid? -/
def vfrom (s : ByteArray) (i : Nat) : Bool := Lib.validGoD (s.size - i) (s.data.toList.drop i)

theorem decode_by (s : ByteArray) (i : Nat) : Utf8.decode s i = Lib.decodeN (s.size - i) (by_ s i) (by_ s (i + 1)) (by_ s (i + 2)) (by_ s (i + 3)) := Lib.decode_at s i
theorem by_at (s : ByteArray) (i : Nat) (h : i < s.size) : by_ s i = (s[i]).toNat := by
  unfold by_; rw [get_at s i h]; rfl
theorem by_lt (s : ByteArray) (i : Nat) : by_ s i < 256 := (s.get! i).toNat_lt

theorem get_drop (s : ByteArray) (i k : Nat) : (ByteArray.mk (s.data.toList.drop i).toArray).get! k = s.get! (i + k) := by
  show (s.data.toList.drop i).toArray[k]! = s.data[i + k]!
  rw [getElem!_def, getElem!_def]
  simp [List.getElem?_drop]
theorem decode_drop (s : ByteArray) (i : Nat) : Lib.decodeL (s.data.toList.drop i) = Utf8.decode s i := by
  unfold Lib.decodeL
  rw [Lib.decode_at, Lib.decode_at, get_drop, get_drop, get_drop, get_drop]
  have : (ByteArray.mk (s.data.toList.drop i).toArray).size = s.size - i := by
    show (s.data.toList.drop i).toArray.size = _
    simp
  rw [this]
  simp
theorem vfrom_end (s : ByteArray) (i : Nat) (h : s.size ≤ i) : vfrom s i = true := by
  unfold vfrom
  rw [show s.size - i = 0 by omega]; rfl
theorem valid_fuel : ∀ (n : Nat) (l : List UInt8), l.length ≤ n → Lib.validGoD n l = Lib.validGoD l.length l
  | 0, l, h => by rw [show l.length = 0 by omega]
  | n + 1, l, h => by
    cases l with
    | nil => simp [Lib.validGoD]
    | cons c t =>
      show Lib.validGoD (n + 1) (c :: t) = Lib.validGoD (t.length + 1) (c :: t)
      unfold Lib.validGoD
      rw [if_neg (List.cons_ne_nil c t), if_neg (List.cons_ne_nil c t)]
      have hw := Lib.decodeL_width (c :: t)
      have hl : ((c :: t).drop (Lib.decodeL (c :: t)).2).length ≤ t.length := by
        rw [List.length_drop]; simp only [List.length_cons]; omega
      simp only [List.length_cons] at h
      rw [valid_fuel n _ (by omega), valid_fuel t.length _ hl]
theorem vfrom_step (s : ByteArray) (i w : Nat) (h : i < s.size) (hw : (Utf8.decode s i).2 = w) (hok : ¬ ((Utf8.decode s i).1 = 65533 ∧ (Utf8.decode s i).2 = 1)) : vfrom s i = vfrom s (i + w) := by
  unfold vfrom
  have hne : s.data.toList.drop i ≠ [] := by
    intro e
    have := congrArg List.length e
    simp at this
    have : s.data.size = s.size := rfl
    omega
  obtain ⟨n, hn⟩ : ∃ n, s.size - i = n + 1 := ⟨s.size - i - 1, by omega⟩
  rw [hn]
  show (if s.data.toList.drop i = [] then true else if (Lib.decodeL (s.data.toList.drop i)).1 = 65533 ∧ (Lib.decodeL (s.data.toList.drop i)).2 = 1 then false else Lib.validGoD n ((s.data.toList.drop i).drop (Lib.decodeL (s.data.toList.drop i)).2)) = _
  rw [if_neg hne, decode_drop, if_neg hok, hw, List.drop_drop]
  have h1 : 1 ≤ w := hw ▸ Lib.width_pos s i
  have hl : (s.data.toList.drop (i + w)).length = s.size - (i + w) := by rw [List.length_drop]; simp
  rw [valid_fuel n _ (by omega), ← hl]
theorem vfrom_bad (s : ByteArray) (i : Nat) (h : i < s.size) (hb : (Utf8.decode s i).1 = 65533 ∧ (Utf8.decode s i).2 = 1) : vfrom s i = false := by
  unfold vfrom
  have hne : s.data.toList.drop i ≠ [] := by
    intro e
    have := congrArg List.length e
    simp at this
    have : s.data.size = s.size := rfl
    omega
  obtain ⟨n, hn⟩ : ∃ n, s.size - i = n + 1 := ⟨s.size - i - 1, by omega⟩
  rw [hn]
  show (if s.data.toList.drop i = [] then true else if (Lib.decodeL (s.data.toList.drop i)).1 = 65533 ∧ (Lib.decodeL (s.data.toList.drop i)).2 = 1 then false else Lib.validGoD n ((s.data.toList.drop i).drop (Lib.decodeL (s.data.toList.drop i)).2)) = _
  rw [if_neg hne, decode_drop, if_pos hb]

/-- What the bytes behind the first one add to it. -/
def accU (s : ByteArray) (i b : Nat) : Nat → Nat
  | 0 => b
  | k + 1 => accU s i b k * 64 + by_ s (i + k + 1) - 128
def goodC (c least : Nat) : Prop := least ≤ c ∧ c ≤ 1114111 ∧ ¬ (55296 ≤ c ∧ c ≤ 57343)
theorem accU_1 (s : ByteArray) (i b : Nat) : accU s i b 1 = b * 64 + by_ s (i + 1) - 128 := rfl
theorem accU_2 (s : ByteArray) (i b : Nat) : accU s i b 2 = (b * 64 + by_ s (i + 1) - 128) * 64 + by_ s (i + 2) - 128 := rfl
theorem accU_3 (s : ByteArray) (i b : Nat) : accU s i b 3 = ((b * 64 + by_ s (i + 1) - 128) * 64 + by_ s (i + 2) - 128) * 64 + by_ s (i + 3) - 128 := rfl
theorem goodC_iff (c l : Nat) : goodC c l ↔ l ≤ c ∧ c ≤ 1114111 ∧ ¬ (55296 ≤ c ∧ c ≤ 57343) := Iff.rfl
theorem cont_iff (s : ByteArray) (i : Nat) : cont s i ↔ 128 ≤ by_ s i ∧ by_ s i ≤ 191 := Iff.rfl
/-- A character of 1 + n bytes stands at i. -/
def charU (s : ByteArray) (i n base least : Nat) : Prop := i + n < s.size ∧ (∀ k, 1 ≤ k → k ≤ n → cont s (i + k)) ∧ goodC (accU s i (by_ s i - base) n) least

set_option maxRecDepth 100000 in
set_option maxHeartbeats 2000000 in
theorem char1_yes (s : ByteArray) (i : Nat) (h0 : 194 ≤ by_ s i ∧ by_ s i ≤ 223) (h : charU s i 1 192 128) : (Utf8.decode s i).2 = 2 ∧ ¬ ((Utf8.decode s i).1 = 65533 ∧ (Utf8.decode s i).2 = 1) := by
  obtain ⟨hl, hc, hg⟩ := h
  have c1 := hc 1 (by omega) (by omega)
  rw [accU_1, goodC_iff] at hg
  rw [decode_by]
  rw [cont_iff] at c1
  clear hc
  generalize by_ s i = b0 at *
  generalize by_ s (i + 1) = b1 at *
  generalize by_ s (i + 2) = b2 at *
  generalize by_ s (i + 3) = b3 at *
  unfold Lib.decodeN
  rw [if_neg (by omega), if_pos (by omega), if_pos (by omega)]
  exact ⟨rfl, fun h => absurd (show 2 = 1 from h.2) (by decide)⟩
set_option maxRecDepth 100000 in
set_option maxHeartbeats 2000000 in
theorem char1_no (s : ByteArray) (i : Nat) (h0 : 194 ≤ by_ s i ∧ by_ s i ≤ 223) (h : ¬ charU s i 1 192 128) : (Utf8.decode s i).1 = 65533 ∧ (Utf8.decode s i).2 = 1 := by
  rw [decode_by]
  have hz : ∀ k, s.size ≤ k → by_ s k = 0 := by
    intro k hk
    unfold by_
    have : s.get! k = 0 := by
      show s.data[k]! = 0
      rw [getElem!_def, Array.getElem?_eq_none hk]; rfl
    rw [this]; rfl
  have hb1 := by_lt s (i + 1)
  have hb2 := by_lt s (i + 2)
  have hb3 := by_lt s (i + 3)
  have hno : ¬ (i + 1 < s.size ∧ (cont s (i + 1)) ∧ goodC (accU s i (by_ s i - 192) 1) 128) := by
    intro hx
    refine h ⟨hx.1, ?_, hx.2.2⟩
    intro k h1 h2
    match k, h1, h2 with
    | 1, _, _ => exact hx.2.1
  rw [accU_1, goodC_iff, cont_iff] at hno
  unfold Lib.decodeN
  generalize by_ s i = b0 at *
  generalize by_ s (i + 1) = b1 at *
  generalize by_ s (i + 2) = b2 at *
  generalize by_ s (i + 3) = b3 at *
  rw [if_neg (by omega)]
  repeat' split
  all_goals first | exact ⟨rfl, rfl⟩ | (exfalso; omega)

set_option maxRecDepth 100000 in
set_option maxHeartbeats 2000000 in
theorem char2_yes (s : ByteArray) (i : Nat) (h0 : 224 ≤ by_ s i ∧ by_ s i ≤ 239) (h : charU s i 2 224 2048) : (Utf8.decode s i).2 = 3 ∧ ¬ ((Utf8.decode s i).1 = 65533 ∧ (Utf8.decode s i).2 = 1) := by
  obtain ⟨hl, hc, hg⟩ := h
  have c1 := hc 1 (by omega) (by omega)
  have c2 := hc 2 (by omega) (by omega)
  rw [accU_2, goodC_iff] at hg
  rw [decode_by]
  rw [cont_iff] at c1
  rw [cont_iff] at c2
  clear hc
  generalize by_ s i = b0 at *
  generalize by_ s (i + 1) = b1 at *
  generalize by_ s (i + 2) = b2 at *
  generalize by_ s (i + 3) = b3 at *
  unfold Lib.decodeN
  rw [if_neg (by omega), if_neg (by omega), if_pos (by omega), if_pos (by omega)]
  exact ⟨rfl, fun h => absurd (show 3 = 1 from h.2) (by decide)⟩
set_option maxRecDepth 100000 in
set_option maxHeartbeats 2000000 in
theorem char2_no (s : ByteArray) (i : Nat) (h0 : 224 ≤ by_ s i ∧ by_ s i ≤ 239) (h : ¬ charU s i 2 224 2048) : (Utf8.decode s i).1 = 65533 ∧ (Utf8.decode s i).2 = 1 := by
  rw [decode_by]
  have hz : ∀ k, s.size ≤ k → by_ s k = 0 := by
    intro k hk
    unfold by_
    have : s.get! k = 0 := by
      show s.data[k]! = 0
      rw [getElem!_def, Array.getElem?_eq_none hk]; rfl
    rw [this]; rfl
  have hb1 := by_lt s (i + 1)
  have hb2 := by_lt s (i + 2)
  have hb3 := by_lt s (i + 3)
  have hno : ¬ (i + 2 < s.size ∧ (cont s (i + 1) ∧ cont s (i + 2)) ∧ goodC (accU s i (by_ s i - 224) 2) 2048) := by
    intro hx
    refine h ⟨hx.1, ?_, hx.2.2⟩
    intro k h1 h2
    match k, h1, h2 with
    | 1, _, _ => exact hx.2.1.1
    | 2, _, _ => exact hx.2.1.2
  rw [accU_2, goodC_iff, cont_iff, cont_iff] at hno
  unfold Lib.decodeN
  generalize by_ s i = b0 at *
  generalize by_ s (i + 1) = b1 at *
  generalize by_ s (i + 2) = b2 at *
  generalize by_ s (i + 3) = b3 at *
  rw [if_neg (by omega)]
  repeat' split
  all_goals first | exact ⟨rfl, rfl⟩ | (exfalso; omega)

set_option maxRecDepth 100000 in
set_option maxHeartbeats 2000000 in
theorem char3_yes (s : ByteArray) (i : Nat) (h0 : 240 ≤ by_ s i ∧ by_ s i ≤ 244) (h : charU s i 3 240 65536) : (Utf8.decode s i).2 = 4 ∧ ¬ ((Utf8.decode s i).1 = 65533 ∧ (Utf8.decode s i).2 = 1) := by
  obtain ⟨hl, hc, hg⟩ := h
  have c1 := hc 1 (by omega) (by omega)
  have c2 := hc 2 (by omega) (by omega)
  have c3 := hc 3 (by omega) (by omega)
  rw [accU_3, goodC_iff] at hg
  rw [decode_by]
  rw [cont_iff] at c1
  rw [cont_iff] at c2
  rw [cont_iff] at c3
  clear hc
  generalize by_ s i = b0 at *
  generalize by_ s (i + 1) = b1 at *
  generalize by_ s (i + 2) = b2 at *
  generalize by_ s (i + 3) = b3 at *
  unfold Lib.decodeN
  rw [if_neg (by omega), if_neg (by omega), if_neg (by omega), if_pos (by omega), if_pos (by omega)]
  exact ⟨rfl, fun h => absurd (show 4 = 1 from h.2) (by decide)⟩
set_option maxRecDepth 100000 in
set_option maxHeartbeats 2000000 in
theorem char3_no (s : ByteArray) (i : Nat) (h0 : 240 ≤ by_ s i ∧ by_ s i ≤ 244) (h : ¬ charU s i 3 240 65536) : (Utf8.decode s i).1 = 65533 ∧ (Utf8.decode s i).2 = 1 := by
  rw [decode_by]
  have hz : ∀ k, s.size ≤ k → by_ s k = 0 := by
    intro k hk
    unfold by_
    have : s.get! k = 0 := by
      show s.data[k]! = 0
      rw [getElem!_def, Array.getElem?_eq_none hk]; rfl
    rw [this]; rfl
  have hb1 := by_lt s (i + 1)
  have hb2 := by_lt s (i + 2)
  have hb3 := by_lt s (i + 3)
  have hno : ¬ (i + 3 < s.size ∧ (cont s (i + 1) ∧ cont s (i + 2) ∧ cont s (i + 3)) ∧ goodC (accU s i (by_ s i - 240) 3) 65536) := by
    intro hx
    refine h ⟨hx.1, ?_, hx.2.2⟩
    intro k h1 h2
    match k, h1, h2 with
    | 1, _, _ => exact hx.2.1.1
    | 2, _, _ => exact hx.2.1.2.1
    | 3, _, _ => exact hx.2.1.2.2
  rw [accU_3, goodC_iff, cont_iff, cont_iff, cont_iff] at hno
  unfold Lib.decodeN
  generalize by_ s i = b0 at *
  generalize by_ s (i + 1) = b1 at *
  generalize by_ s (i + 2) = b2 at *
  generalize by_ s (i + 3) = b3 at *
  rw [if_neg (by omega)]
  repeat' split
  all_goals first | exact ⟨rfl, rfl⟩ | (exfalso; omega)

theorem char_none (s : ByteArray) (i : Nat) (h0 : 128 ≤ by_ s i) (h1 : ¬ (194 ≤ by_ s i ∧ by_ s i ≤ 223)) (h2 : ¬ (224 ≤ by_ s i ∧ by_ s i ≤ 239)) (h3 : ¬ (240 ≤ by_ s i ∧ by_ s i ≤ 244)) : (Utf8.decode s i).1 = 65533 ∧ (Utf8.decode s i).2 = 1 := by
  rw [decode_by]
  have hb0 := by_lt s i
  have hb1 := by_lt s (i + 1)
  unfold Lib.decodeN
  generalize by_ s i = b0 at *
  generalize by_ s (i + 1) = b1 at *
  generalize by_ s (i + 2) = b2 at *
  generalize by_ s (i + 3) = b3 at *
  rw [if_neg (by omega)]
  repeat' split
  all_goals first | exact ⟨rfl, rfl⟩ | (exfalso; omega)
theorem char_ascii (s : ByteArray) (i : Nat) (h : by_ s i < 128) : (Utf8.decode s i).2 = 1 ∧ ¬ ((Utf8.decode s i).1 = 65533 ∧ (Utf8.decode s i).2 = 1) := by
  rw [decode_small s i h]
  exact ⟨rfl, fun hx => by have := hx.1; simp only at this; unfold by_ at h; omega⟩
end Go.Proofs.YtndmlldaebdnmaaDoor
