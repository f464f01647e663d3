/-
  val.unescaped: the text of bytes with an end.
-/
import Derived.Test.YtonghiaocpenaaaGreatDoorKTake
import Derived.Laws.IdiomStrings
import Derived.Laws.BytesString
namespace Go.Proofs.YtonghiaocpenaaaGreatDoor
open Go.RowKit

/-- Bytes as a text. -/
def ofL (xs : List Int) : ByteArray := ⟨(Lib.bytesOf xs).toArray⟩
theorem bytes_len (xs : List Int) : (Lib.bytesOf xs).length = xs.length := by simp [Lib.bytesOf]
theorem conv_bytes (w : World) (A : Option Addr) (n cap : Nat) (xs : List Int) (h : RdB w A n xs) (hb : Bytes xs) :
    (convert 29 9 (.slice A n cap)).run Tryz.prog w = .ok (.string (ofL xs)) w := by
  cases A with
  | none =>
    have hn : n = 0 := by
      cases n with
      | zero => rfl
      | succ n =>
        obtain ⟨c, b, off, _, h2, _⟩ := h.get 0 (by omega)
        cases h2
    subst hn
    obtain rfl : xs = [] := List.eq_nil_of_length_eq_zero h.len.symm
    rw [run_convert_bytes_string w 29 9 5 none 0 cap Tryz.underlying29 Tryz.underlying5 Tryz.underlying9]
    simp [Conv.bytesToString, ofL, Lib.bytesOf]
    rfl
  | some a =>
    have := run_convert_bytes_back (P := Tryz.prog) w 29 9 5 a cap (Lib.bytesOf xs) Tryz.underlying29 Tryz.underlying5 Tryz.underlying9 (fun j hj => by
      have hj' : j < xs.length := by rw [bytes_len] at hj; exact hj
      obtain ⟨b, off, h1, h2, h3⟩ := h.at_ j xs[j] (List.getElem?_eq_getElem hj')
      injection h1 with h1
      subst h1
      have h4 := h3 0 _ rfl
      rw [Lib.addr_add]
      rw [Nat.mul_one, Nat.add_zero] at h4
      rw [h4]
      obtain ⟨h5, h6⟩ := hb _ (List.getElem_mem hj')
      simp only [Lib.bytesOf, List.getElem_map, Option.some.injEq, Value.int.injEq, true_and]
      rw [UInt8.toNat_ofNat']
      omega)
    rw [bytes_len, ← h.len] at this
    exact this
theorem num_of (xs : List Int) (hb : Bytes xs) : numL (ofL xs).data.toList = xs := by
  unfold numL ofL Lib.bytesOf
  rw [List.map_map]
  conv => rhs; rw [← List.map_id xs]
  refine List.map_congr_left fun x hx => ?_
  obtain ⟨h5, h6⟩ := hb x hx
  simp only [Function.comp, id]
  rw [UInt8.toNat_ofNat']
  omega
theorem of_num (s : ByteArray) : ofL (numL s.data.toList) = s := by
  unfold numL ofL Lib.bytesOf
  rw [List.map_map]
  have : (s.data.toList.map ((fun n : Int => UInt8.ofNat n.toNat) ∘ fun c : UInt8 => (c.toNat : Int))) = s.data.toList := by
    conv => rhs; rw [← List.map_id s.data.toList]
    refine List.map_congr_left fun x _ => ?_
    simp
  rw [this]
theorem Bytes.num (l : List UInt8) : Bytes (numL l) := fun x hx => by
  unfold numL at hx
  obtain ⟨c, _, rfl⟩ := List.mem_map.1 hx
  have := c.toNat_lt
  omega
theorem Bytes.drop {xs : List Int} (h : Bytes xs) (k : Nat) : Bytes (xs.drop k) := fun x hx => h x (List.mem_of_mem_drop hx)
theorem Bytes.take {xs : List Int} (h : Bytes xs) (k : Nat) : Bytes (xs.take k) := fun x hx => h x (List.mem_of_mem_take hx)
theorem Bytes.append {xs ys : List Int} (h : Bytes xs) (k : Bytes ys) : Bytes (xs ++ ys) := fun x hx => (List.mem_append.1 hx).elim (h x) (k x)
theorem Bytes.one {x : Int} (h0 : 0 ≤ x) (h1 : x < 256) : Bytes [x] := fun y hy => by simp at hy; subst hy; exact ⟨h0, h1⟩

/-- A text that is read: some text and what is behind its end; or none, the mark in place of a text, and what is behind. -/
def readV (out : List Int) : List Int → Option (Option (List Int) × List Int)
  | [] => none
  | c :: r =>
    if c = 0 then
      match r with
      | [] => none
      | d :: r2 => if d = 1 then some (some out, r2) else if d = 0 then (if out = [] then some (none, r2) else none) else if d = 255 then readV (out ++ [0]) r2 else none
    else readV (out ++ [c]) r
/-- .. behind a mark. -/
def readZ (out : List Int) : List Int → Option (Option (List Int) × List Int)
  | [] => none
  | d :: r2 => if d = 1 then some (some out, r2) else if d = 0 then (if out = [] then some (none, r2) else none) else if d = 255 then readV (out ++ [0]) r2 else none
theorem readV_mark (out r : List Int) : readV out (0 :: r) = readZ out r := by
  cases r <;> simp [readV, readZ]
theorem readV_plain {out r : List Int} {c : Int} (h : c ≠ 0) : readV out (c :: r) = readV (out ++ [c]) r := by
  conv => lhs; unfold readV
  simp [h]
theorem readV_skip : ∀ (p out r : List Int), (∀ x ∈ p, x ≠ 0) → readV out (p ++ r) = readV (out ++ p) r
  | [], out, r, _ => by simp
  | c :: p, out, r, h => by
    rw [List.cons_append, readV_plain (h c (by simp)), readV_skip p _ r (fun x hx => h x (List.mem_cons_of_mem _ hx)), List.append_assoc]
    rfl
theorem readV_none (p out : List Int) (h : ∀ x ∈ p, x ≠ 0) : readV out p = none := by
  have := readV_skip p out [] h
  rw [List.append_nil] at this
  rw [this]; rfl
/-- Where the first zero stands. -/
theorem index_zero : ∀ (xs : List Int), Bytes xs → (Lib.indexByte (Lib.bytesOf xs) (0 : Int).toNat.toUInt8 = -1 ∧ ∀ x ∈ xs, x ≠ 0) ∨ ∃ i : Nat, Lib.indexByte (Lib.bytesOf xs) (0 : Int).toNat.toUInt8 = i ∧ i < xs.length ∧ (∀ x ∈ xs.take i, x ≠ 0) ∧ xs.drop i = 0 :: xs.drop (i + 1)
  | [], _ => .inl ⟨rfl, fun x hx => by cases hx⟩
  | c :: xs, h => by
    obtain ⟨h0, h1⟩ := h c (by simp)
    have e0 : (0 : Int).toNat.toUInt8 = 0 := rfl
    have ih := index_zero xs (fun x hx => h x (List.mem_cons_of_mem _ hx))
    rw [e0] at ih ⊢
    have eb : Lib.bytesOf (c :: xs) = UInt8.ofNat c.toNat :: Lib.bytesOf xs := rfl
    by_cases hc : c = 0
    · subst hc
      exact .inr ⟨0, by rw [eb]; rfl, by simp, by simp, by simp⟩
    · have hne : (UInt8.ofNat c.toNat == 0) = false := by
        rw [beq_eq_false_iff_ne]
        intro e
        have := congrArg UInt8.toNat e
        rw [UInt8.toNat_ofNat'] at this
        have e2 : (0 : UInt8).toNat = 0 := rfl
        rw [e2] at this
        omega
      rcases ih with ⟨i1, i2⟩ | ⟨i, i1, i2, i3, i4⟩
      · refine .inl ⟨?_, fun x hx => ?_⟩
        · rw [eb, Lib.indexByte, hne, i1]; rfl
        · rcases List.mem_cons.1 hx with rfl | hx
          · exact hc
          · exact i2 x hx
      · refine .inr ⟨i + 1, ?_, by simp; omega, ?_, by simpa using i4⟩
        · rw [eb, Lib.indexByte, hne, i1]
          have : ((i : Int) == -1) = false := by rw [beq_eq_false_iff_ne]; omega
          simp [this]
        · intro x hx
          rw [List.take_succ_cons] at hx
          rcases List.mem_cons.1 hx with rfl | hx
          · exact hc
          · exact i3 x hx
end Go.Proofs.YtonghiaocpenaaaGreatDoor
