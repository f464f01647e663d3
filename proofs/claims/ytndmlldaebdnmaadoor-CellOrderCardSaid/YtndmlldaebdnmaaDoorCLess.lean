/-
  Plain (cell): CellLess: with a version less what is to be seen is among what is with it; at most half is lost.
-/
import Derived.Test.YtndmlldaebdnmaaDoorCGone
namespace Go.Proofs.YtndmlldaebdnmaaDoor
open Go.RowKit

theorem col_symm {a b : Cell} (h : colB a b = true) : colB b a = true := by
  rw [col_iff] at h ⊢
  exact ⟨⟨h.1.1.symm, h.1.2.symm⟩, h.2.1.symm, h.2.2.2, h.2.2.1⟩
/-- Of unlike columns, each of which has a cell in a, there are at most as many as a has cells. -/
theorem cols_le : ∀ (e a : List Cell), (e.Pairwise fun c d => colB c d = false) → (∀ c ∈ e, ∃ x ∈ a, colB x c = true) → e.length ≤ a.length
  | [], _, _, _ => Nat.zero_le _
  | c :: e, a, hp, h => by
    obtain ⟨x, hx, hxc⟩ := h c (by simp)
    obtain ⟨a1, a2, rfl⟩ := List.append_of_mem hx
    have hp' := List.pairwise_cons.1 hp
    have := cols_le e (a1 ++ a2) hp'.2 fun d hd => by
      obtain ⟨y, hy, hyd⟩ := h d (List.mem_cons_of_mem _ hd)
      refine ⟨y, ?_, hyd⟩
      rcases List.mem_append.1 hy with h1 | h1
      · exact List.mem_append_left _ h1
      · rcases List.mem_cons.1 h1 with rfl | h1
        · exfalso
          have h2 := hp'.1 d hd
          rw [col_trans (col_symm hyd), ] at h2
          have h3 := col_symm hxc
          rw [h3] at h2
          cases h2
        · exact List.mem_append_right _ h1
    simp only [List.length_append, List.length_cons] at this ⊢
    omega
theorem filter_sum {α : Type} {p q r : α → Bool} : ∀ {l : List α}, (∀ x ∈ l, r x = (p x || q x) ∧ ¬ (p x = true ∧ q x = true)) → (l.filter r).length = (l.filter p).length + (l.filter q).length
  | [], _ => rfl
  | x :: l, h => by
    have ih := filter_sum (p := p) (q := q) (r := r) (l := l) (fun y hy => h y (List.mem_cons_of_mem _ hy))
    obtain ⟨h1, h2⟩ := h x (by simp)
    rw [List.filter_cons, List.filter_cons, List.filter_cons, h1]
    cases hp : p x <;> cases hq : q x
    · simpa using ih
    · simp; omega
    · simp; omega
    · exact absurd ⟨hp, hq⟩ h2
/-- CellLess's plain part. -/
theorem seen_less {v life now : Int} {l : List Cell} (h1 : 1 ≤ v) (h7 : v ≤ 7) : (seenL v life now l).Sublist (seenL (v + 1) life now l) ∧ (seenL (v + 1) life now l).length ≤ 2 * (seenL v life now l).length := by
  by_cases hl : life < 0
  · unfold seenL
    rw [if_pos (.inr (.inr hl)), if_pos (.inr (.inr hl))]
    exact ⟨List.Sublist.refl _, Nat.le_refl _⟩
  · rw [seenL_eq (v := v) (by omega), seenL_eq (v := v + 1) (by omega)]
    have hR := sortL_rises l
    generalize sortL l = S at hR
    have hs : ∀ c, shownB v S life now c = true → shownB (v + 1) S life now c = true := fun c hc => by
      unfold shownB at hc ⊢
      rw [Bool.and_eq_true, decide_eq_true_eq] at hc ⊢
      exact ⟨hc.1, by omega⟩
    refine ⟨rises_sublist (hR.filter _) (hR.filter _) fun x hx => ?_, ?_⟩
    · rw [List.mem_filter] at hx ⊢
      exact ⟨hx.1, hs x hx.2⟩
    · have hsum := filter_sum (l := S) (r := shownB (v + 1) S life now) (p := shownB v S life now) (q := fun c => visB S life now c && decide ((rankC S life now c : Int) = v)) fun c _ => by
        unfold shownB
        cases visB S life now c with
        | false => exact ⟨rfl, fun h => by cases h.1⟩
        | true =>
          simp only [Bool.true_and, decide_eq_true_eq]
          refine ⟨?_, fun h => by omega⟩
          rw [Bool.eq_iff_iff, Bool.or_eq_true, decide_eq_true_eq, decide_eq_true_eq, decide_eq_true_eq]
          omega
      have hle : (S.filter fun c => visB S life now c && decide ((rankC S life now c : Int) = v)).length ≤ (S.filter (shownB v S life now)).length := by
        refine cols_le _ _ ?_ fun c hc => ?_
        · refine List.Pairwise.imp_of_mem (fun {a b} ha hb hab => ?_) (hR.filter _)
          obtain ⟨haS, ha2⟩ := List.mem_filter.1 ha
          obtain ⟨_, hb2⟩ := List.mem_filter.1 hb
          rw [Bool.and_eq_true, decide_eq_true_eq] at ha2 hb2
          cases hc : colB a b with
          | false => rfl
          | true =>
            have := rank_mono hab hc haS ha2.1
            omega
        · obtain ⟨hcS, hc2⟩ := List.mem_filter.1 hc
          rw [Bool.and_eq_true, decide_eq_true_eq] at hc2
          have hne : (S.filter fun x => decide (x.order c < 0) && (visB S life now x && colB x c)) ≠ [] := fun h => by
            have h2 := hc2.2
            unfold rankC at h2
            rw [h] at h2
            simp at h2
            omega
          have hRf : Rises (S.filter fun x => decide (x.order c < 0) && (visB S life now x && colB x c)) := hR.filter _
          cases hF : S.filter fun x => decide (x.order c < 0) && (visB S life now x && colB x c) with
          | nil => exact absurd hF hne
          | cons x F =>
            rw [hF] at hRf
            have hxm : x ∈ S.filter fun x => decide (x.order c < 0) && (visB S life now x && colB x c) := by rw [hF]; simp
            obtain ⟨hxS, hx2⟩ := List.mem_filter.1 hxm
            simp only [Bool.and_eq_true, decide_eq_true_eq] at hx2
            refine ⟨x, ?_, hx2.2.2⟩
            have hz : rankC S life now x = 0 := by
              unfold rankC
              rw [filter_none (fun y hy => ?_)]; rfl
              cases hyy : (decide (y.order x < 0) && (visB S life now y && colB y x)) with
              | false => rfl
              | true =>
                exfalso
                simp only [Bool.and_eq_true, decide_eq_true_eq] at hyy
                have hyc : y.order c < 0 := by
                  have t1 := order_is.trans y x c (by omega) (by omega)
                  rcases Int.lt_or_eq_of_le t1 with h2 | h2
                  · exact h2
                  · exfalso
                    have a1 := order_is.anti y c
                    have a2 := order_is.trans x c y (by omega) (by omega)
                    have a3 := order_is.anti x y
                    omega
                have hym : y ∈ S.filter fun x => decide (x.order c < 0) && (visB S life now x && colB x c) := by
                  rw [List.mem_filter]
                  refine ⟨hy, ?_⟩
                  simp only [Bool.and_eq_true, decide_eq_true_eq]
                  exact ⟨hyc, hyy.2.1, by rw [← col_trans hx2.2.2]; exact hyy.2.2⟩
                rw [hF] at hym
                rcases List.mem_cons.1 hym with rfl | hym
                · have := order_is.refl y; omega
                · have h3 := (List.pairwise_cons.1 hRf).1 y hym
                  have := order_is.anti x y
                  omega
            rw [List.mem_filter]
            refine ⟨hxS, ?_⟩
            unfold shownB
            rw [hx2.2.1, hz, Bool.true_and, decide_eq_true_eq]
            show (0 : Int) + 1 ≤ v
            omega
      omega
end Go.Proofs.YtndmlldaebdnmaaDoor
