/-
  val.taken: what it computes.
-/
import Derived.Test.YtonghiaocpenaaaGreatDoorKFrom
namespace Go.Proofs.YtonghiaocpenaaaGreatDoor
open Go.RowKit

/-- The value of a kind that bytes tell. -/
def takenV (k : Int) (xs : List Int) : Option (Int × ByteArray) :=
  if k = 1 then (if xs.length = 8 then some (IntKind.i64.wrap (bits .xor .u64 (be64 xs) 9223372036854775808), ⟨#[]⟩) else none)
  else if k = 5 then (fromV xs).map fun n => (n, ⟨#[]⟩)
  else if k = 4 then (match xs with | [x] => if x = 0 ∨ x = 1 then some (x, ⟨#[]⟩) else none | _ => none)
  else match readV [] xs with
    | some (some t, []) => if valOk k 0 (ofL t) = true then some (0, ofL t) else none
    | _ => none
def TakenOut (k : Int) (xs : List Int) (w : World) (e : Ending) (w' : World) : Prop :=
  Below w.heap.size w w' ∧ ∃ n s ok, e = .returned (.tuple #[.agg #[.int .i64 k, .int .i64 n, .string s], .bool ok]) ∧ takenV k xs = if ok = true then some (n, s) else none

theorem read_len' : ∀ (xs out : List Int) (t rest : List Int), readV out xs = some (some t, rest) → t.length ≤ out.length + xs.length
  | [], _, _, _, h => by simp [readV] at h
  | [c], out, t, rest, h => by
    by_cases hc : c = 0
    · subst hc; rw [readV_mark] at h; simp [readZ] at h
    · rw [readV_plain hc] at h; simp [readV] at h
  | c :: d :: r, out, t, rest, h => by
    by_cases hc : c = 0
    · subst hc
      rw [readV_mark, readZ] at h
      split at h
      · injection h with h; injection h with h _; injection h with h; subst h; simp
      · split at h
        · split at h
          · injection h with h; injection h with h _; cases h
          · cases h
        · split at h
          · have := read_len' r _ t rest h
            simp at this ⊢; omega
          · cases h
    · rw [readV_plain hc] at h
      have := read_len' (d :: r) _ t rest h
      simp at this ⊢; omega
theorem read_len {xs t rest : List Int} (h : readV [] xs = some (some t, rest)) : t.length ≤ xs.length := by
  have := read_len' xs [] t rest h
  simpa using this
theorem later_free {w : World} {p : Addr} (h : w.frozen? p = false) (hlt : p.block < w.heap.size) (X : World) : (w.later X).frozen? p = false := by
  rw [← h]
  exact World.frozen?_of_block ((later_below w X).block p.block hlt)

theorem wrap_isInt (x : Int) : isInt (wrap64 x) := by unfold isInt wrap64; omega
theorem wrap_two (x : Int) : wrap64 x = IntKind.i64.wrap x := by rw [IntKind.wrap_i64]; unfold wrap64; rfl

end Go.Proofs.YtonghiaocpenaaaGreatDoor
