/-
  For (*reader).cell: small facts.
-/
import Derived.Test.YtonghiaocpenaaaGreatDoorKRTime
import Derived.Test.YtonghiaocpenaaaGreatDoorKEnc
namespace Go.Proofs.YtonghiaocpenaaaGreatDoor
open Go.RowKit

theorem RdrAt.below {lim rb : Nat} {xs : List Int} {w w' : World} (h : RdrAt lim rb xs w) (hb : Below w.heap.size w w') : RdrAt lim rb xs w' := by
  obtain ⟨A, n, cap, hc, hf, hx, hby, h1, h2, h3, h4, h5⟩ := h
  refine ⟨A, n, cap, below_cell hb (Nat.le_refl _) hc, ?_, hx.below hb, hby, h1, h2, h3, h4, h5⟩
  rw [← hf]
  exact World.frozen?_of_block (hb.block rb (lt_of_cell hc))
theorem RdrAt.len {lim rb : Nat} {xs : List Int} {w : World} (h : RdrAt lim rb xs w) : xs.length ≤ 1000000 := by
  obtain ⟨A, n, cap, hc, hf, hx, hby, h1, h2, h3, h4, h5⟩ := h
  rw [← hx.len]; exact h5
theorem RdrAt.lt {lim rb : Nat} {xs : List Int} {w : World} (h : RdrAt lim rb xs w) : rb < w.heap.size := by
  obtain ⟨A, n, cap, hc, _⟩ := h
  exact lt_of_cell hc
theorem RdrAt.bytes {lim rb : Nat} {xs : List Int} {w : World} (h : RdrAt lim rb xs w) : Bytes xs := by
  obtain ⟨_, _, _, _, _, _, hby, _⟩ := h
  exact hby
/-- A store into a new block. -/
theorem RdrAt.store {lim rb : Nat} {xs : List Int} {w : World} (h : RdrAt lim rb xs w) (p : Addr) (v : Value) (hp : p.block ≠ rb) (hl : lim ≤ p.block) : RdrAt lim rb xs (w.setCell p v) := by
  have ho : Only (fun k => k = p.block) w (w.setCell p v) := ⟨rfl, rfl, rfl, by simp, fun k _ hk => heap_setCell_other w p k v hk⟩
  obtain ⟨A, n, cap, hc, hf, hx, hby, h1, h2, h3, h4, h5⟩ := h
  refine ⟨A, n, cap, ho.cell hc (fun e => hp e.symm), by rw [World.frozen?_setCell]; exact hf, hx.only ho (fun a ha => ?_), hby, h1, h2, h3, h4, h5⟩
  rcases h3 with e | ⟨b, o, e, hbl⟩
  · rw [e] at ha; cases ha
  · rw [e] at ha; injection ha with ha; subst ha
    show ¬ b = p.block
    omega
theorem rtext2_calls (lim rb : Nat) (xs : List Int) (w : World) (h : RdrAt lim rb xs w) : Calls Tryz.prog 61 #[.pointer (some ⟨rb, 0, none⟩)] w fun e w' =>
    Only (fun k => k = rb) w w' ∧ ((∃ (q : Option (List Int)) (rest : List Int) (s : ByteArray) (a : Bool), readV [] xs = some (q, rest) ∧ s = ofL (q.getD []) ∧ a = q.isNone ∧ e = .returned (.tuple #[.string s, .bool a]) ∧ RdrAt lim rb rest w') ∨ (readV [] xs = none ∧ e = .panicked badC)) := by
  refine (rtext_calls lim rb xs w h h.len).mono ?_
  rintro e w' ⟨ho, ⟨t, rest, hv, rfl, hr, _⟩ | ⟨rest, hv, rfl, hr⟩ | ⟨hv, rfl⟩⟩
  · exact ⟨ho, .inl ⟨some t, rest, _, _, hv, rfl, rfl, rfl, hr⟩⟩
  · exact ⟨ho, .inl ⟨none, rest, _, _, hv, rfl, rfl, rfl, hr⟩⟩
  · exact ⟨ho, .inr ⟨hv, rfl⟩⟩
theorem time_int (u : Int) : isInt (timeN u) := by
  unfold timeN
  rw [IntKind.wrap_i64]
  unfold isInt
  omega
theorem wrap_int (u : Int) : isInt (IntKind.i64.wrap u) := by
  rw [IntKind.wrap_i64]
  unfold isInt
  omega
theorem val_fits {xs : List Int} {k n : Int} {s : ByteArray} (hb : Bytes xs) (h : valV xs = some (k, n, s)) : isInt k ∧ isInt n ∧ s.size ≤ xs.length := by
  cases xs with
  | nil => cases h
  | cons k' r =>
    obtain ⟨k0, k1⟩ := hb k' (by simp)
    have hbr : Bytes r := fun x hx => hb x (List.mem_cons_of_mem _ hx)
    have h : (takenV k' r).map (fun p => (k', p.1, p.2)) = some (k, n, s) := h
    obtain ⟨⟨n', s'⟩, ht, h2⟩ := Option.map_eq_some_iff.1 h
    simp only [Prod.mk.injEq] at h2
    obtain ⟨rfl, rfl, rfl⟩ := h2
    refine ⟨by unfold isInt; omega, ?_⟩
    unfold takenV at ht
    split at ht
    · split at ht
      · injection ht with ht
        injection ht with h3 h4
        subst h3; subst h4
        exact ⟨wrap_int _, Nat.zero_le _⟩
      · cases ht
    · split at ht
      · obtain ⟨m, hm, h2⟩ := Option.map_eq_some_iff.1 ht
        injection h2 with h3 h4
        subst h3; subst h4
        unfold fromV at hm
        split at hm
        · injection hm with hm
          subst hm
          exact ⟨wrap_int _, Nat.zero_le _⟩
        · cases hm
      · split at ht
        · match r, ht, hbr with
          | [], ht, _ => cases ht
          | [x], ht, hbr =>
            obtain ⟨x0, x1⟩ := hbr x (by simp)
            simp only at ht
            split at ht
            · injection ht with ht
              injection ht with h3 h4
              subst h3; subst h4
              exact ⟨by unfold isInt; omega, Nat.zero_le _⟩
            · cases ht
          | x :: y :: z, ht, _ => cases ht
        · split at ht
          · rename_i t hr
            split at ht
            · injection ht with ht
              injection ht with h3 h4
              subst h3; subst h4
              refine ⟨by unfold isInt; omega, ?_⟩
              have := read_len hr
              have h2 : (ofL t).size = t.length := by show (Lib.bytesOf t).toArray.size = _; simp [Lib.bytesOf]
              rw [h2]
              simp; omega
            · cases ht
          · cases ht
end Go.Proofs.YtonghiaocpenaaaGreatDoor
