/-
  slices.IndexFunc with forget's closure.
-/
import Derived.Test.YtideokbaenkijaaSForget
namespace Go.Proofs.Ytideokbaenkijaa
open Go.RowKit

/-- The cells of element i. -/
theorem rdw {w : World} {A : Option Addr} {n : Nat} {l : List (Nat × Nat)} (h : RdW w A n l) (i : Nat) (hi : i < n) :
    ∃ p b off, l[i]? = some p ∧ A = some ⟨b, off, none⟩ ∧ b < w.heap.size ∧ w.cell? ⟨b, off + i * 2, none⟩ = some (.pointer (some ⟨p.1, 0, none⟩)) ∧ w.cell? ⟨b, off + i * 2 + 1, none⟩ = some (.int .i64 p.2) := by
  obtain ⟨p, b, off, h1, h2, h3, h4⟩ := h.get i hi
  exact ⟨p, b, off, h1, h2, h3, h4 0 _ rfl, h4 1 _ rfl⟩

/-- The first write to a file, or none. -/
def FirstAt (id : Nat) (l : List (Nat × Nat)) (e : Ending) : Prop :=
  (∃ k, e = .returned (.int .i64 (k : Nat)) ∧ (∀ p ∈ l.take k, p.1 ≠ id) ∧ ∃ p, l[k]? = some p ∧ p.1 = id) ∨ (e = .returned (.int .i64 (-1)) ∧ ∀ p ∈ l, p.1 ≠ id)

set_option maxHeartbeats 1000000 in
theorem idx_calls (A : Option Addr) (n cap x id : Nat) (l : List (Nat × Nat)) (w : World) (h : RdW w A n l) (hx : w.cell? ⟨x, 0, none⟩ = some (.pointer (some ⟨id, 0, none⟩))) (h1 : ∀ p ∈ l, Alive w p.1) (h2 : Alive w id) (hn : n ≤ 1000000) :
    Calls Try.prog 90 #[.slice A n cap, delF x] w fun e w' => FirstAt id l e ∧ Below w.heap.size w w' := by
  have HR := Lib.hid h
  have HX := Lib.hid hx
  have H1 := Lib.hid h1
  have H2 := Lib.hid h2
  have HL := Lib.hid h.len
  clear h hx h1 h2
  go_enter Try.func90, Try.ntmps90
  go_wp2
  go_loopw [8] (fun i wr => ∃ k : Nat, k ≤ n ∧ i = .int .i64 k ∧ Hid (Below w.heap.size w wr) ∧ Hid (∀ p ∈ l.take k, p.1 ≠ id)) (fun i _ => n - (intOf i).toNat)
  case atStart => exact ⟨0, Nat.zero_le _, rfl, Below.refl _ _, by simp [Hid]⟩
  case round =>
    obtain ⟨k, hk, rfl, HB, HN⟩ := hrel
    by_cases hlt : k < n
    · obtain ⟨p, b, off, hp, rfl, _, c0, c1⟩ := rdw (HR.out.below HB.out) k hlt
      have hb := HB.out.size
      have HP := Lib.hid hp
      have HC := Lib.hid (del_calls p x id wr (below_cell HB.out (Nat.le_refl _) HX.out) ((H1.out p (List.mem_of_getElem? hp)).below HB.out) (H2.out.below HB.out))
      clear hp
      go_wp2_with fail
      refine HC.out.mono ?_
      rintro e w2 ⟨rfl, hb2⟩
      have HB2 := Lib.hid (HB.out.trans (hb2.mono hb))
      clear hb2
      by_cases he : p.1 = id
      · have HE := Lib.hid he
        rw [decide_eq_true he]
        clear he
        go_wp2
        go_ret
        exact ⟨.inl ⟨k, rfl, HN.out, p, HP.out, HE.out⟩, HB2.out⟩
      · have HE := Lib.hid he
        rw [decide_eq_false he]
        clear he
        go_wp2
        go_roundw
        case rel =>
          refine ⟨k + 1, by omega, by go_num, HB2.out, fun q hq => ?_⟩
          rw [List.take_add_one, HP.out] at hq
          rcases List.mem_append.1 hq with hq | hq
          · exact HN.out q hq
          · simp at hq; rw [hq]; exact HE.out
        case measure => simp [intOf]; omega
    · go_wp2
      go_ret
      refine ⟨.inr ⟨rfl, ?_⟩, HB.out⟩
      have := HN.out
      rwa [List.take_of_length_le (by have := HL.out; omega)] at this
end Go.Proofs.Ytideokbaenkijaa
