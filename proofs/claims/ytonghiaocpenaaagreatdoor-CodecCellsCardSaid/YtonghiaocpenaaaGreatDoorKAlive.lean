/-
  The law package's alive (codec): a closed case.
-/
import Derived.Test.YtonghiaocpenaaaGreatDoorKSame
namespace Go.Proofs.YtonghiaocpenaaaGreatDoor
open Go.RowKit

def alC (t : Int) : Cell := ⟨⟨#[114]⟩, ⟨#[102]⟩, ⟨#[113]⟩, t, 1, 1, 0, ⟨#[]⟩⟩
theorem alC_fits (t : Int) (h : isInt t) : (alC t).fits :=
  ⟨show (1 : Nat) ≤ _ by decide, show (1 : Nat) ≤ _ by decide, show (1 : Nat) ≤ _ by decide, show (0 : Nat) ≤ _ by decide, h, show isInt 1 by unfold isInt; decide, show isInt 1 by unfold isInt; decide, show isInt 0 by unfold isInt; decide⟩
theorem alC_ok : (alC 5).ok = true := by kernel_rfl
theorem zero_ok : Cell.ok ⟨⟨#[]⟩, ⟨#[]⟩, ⟨#[]⟩, 0, 0, 0, 0, ⟨#[]⟩⟩ = false := by kernel_rfl
theorem al_order : (alC 5).order (alC 4) = -1 := by kernel_rfl
theorem al_take : takeV 0 0 [172, 2, 7] = some (300, [7]) := by kernel_rfl
theorem al_num : vlq 300 = [172, 2] := by kernel_rfl
theorem own_caps {E : TypeId} {sz : Nat} {α : Type} {enc : α → List Value} {w : World} {base n cap : Nat} {A : Option Addr} {xs : List α} (h : Own E sz enc w base A n cap xs) : n ≤ cap ∧ cap ≤ maxLen ∧ (A = none ∨ ∃ b o, A = some ⟨b, o, none⟩ ∧ b < w.heap.size) := by
  have hs := h.shape
  obtain ⟨h0, h1, h2 | ⟨g, cap', cur, h3, h4, h5, h6, h7, _⟩⟩ := h
  · obtain ⟨h2, h3⟩ := h2
    injection h2 with h2 h4 h5
    exact ⟨by omega, by unfold maxLen; omega, .inl h2⟩
  · injection h3 with h3 _ h8
    subst h8
    refine ⟨h6, h7, ?_⟩
    rcases hs with ⟨h, _⟩ | ⟨q, h, _, hq⟩
    · exact .inl h
    · exact .inr ⟨q, 0, h, hq⟩
theorem al_bytes : Bytes (encL (alC 5)) := by
  have h : (encL (alC 5)).all (fun x => decide (0 ≤ x ∧ x < 256)) = true := by kernel_rfl
  exact fun x hx => of_decide_eq_true (List.all_eq_true.1 h x hx)
theorem al_len : (encL (alC 5)).length ≤ 100 := of_decide_eq_true (by kernel_rfl)
theorem al_back : cellV (encL (alC 5)) = some (alC 5) := cell_back _ alC_ok (by show isInt 0; unfold isInt; decide)
end Go.Proofs.YtonghiaocpenaaaGreatDoor
