/-
  Plain laws: what Sort makes is a run.
-/
import Derived.Test.YtmabmnkdigdaiaaDoorJFine
namespace Go.Proofs.YtmabmnkdigdaiaaDoor
open Go.RowKit

theorem snoc_ind {α : Type} {P : List α → Prop} (h0 : P []) (h1 : ∀ l a, P l → P (l ++ [a])) : ∀ l, P l := by
  intro l
  have : ∀ n (l : List α), l.length = n → P l := by
    intro n
    induction n with
    | zero => intro l hl; rw [List.eq_nil_of_length_eq_zero hl]; exact h0
    | succ n ih =>
      intro l hl
      have hne : l ≠ [] := fun e => by rw [e] at hl; simp at hl
      rw [← List.dropLast_concat_getLast hne]
      exact h1 _ _ (ih _ (by simp [hl]))
  exact this _ l rfl
theorem insAll_eq (c : Cell) : ∀ l : List Cell, Rises l → insAll c l = if l.any (fun x => decide (c.order x ≤ 0)) = true then (l.filter (fun x => decide (x.order c < 0)) ++ c :: l.filter (fun x => decide (c.order x < 0)), true) else (l, false) := by
  intro l
  induction l using snoc_ind with
  | h0 => intro _; rfl
  | h1 l x ih =>
    intro h
    have hl : Rises l := (List.pairwise_append.1 h).1
    have hx : ∀ y ∈ l, y.order x < 0 := fun y hy => (List.pairwise_append.1 h).2.2 y hy x (by simp)
    rw [insAll_snoc, ih hl]
    have ha := order_is.anti c x
    by_cases hany : l.any (fun x => decide (c.order x ≤ 0)) = true
    · obtain ⟨y, hy, hcy⟩ := List.any_eq_true.1 hany
      have hcx : c.order x < 0 := order_is.le_lt (of_decide_eq_true hcy) (hx y hy)
      have h1 : ¬ c.order x = 0 := by omega
      have h2 : ¬ x.order c < 0 := by omega
      rw [if_pos hany, if_pos (by rw [List.any_append, hany]; rfl)]
      simp only [insStep, h1, if_false, List.filter_append]
      simp [hcx, h2]
    · rw [if_neg hany]
      have hall : ∀ y ∈ l, y.order c < 0 := fun y hy => by
        have h3 : ¬ c.order y ≤ 0 := fun h4 => hany (List.any_eq_true.2 ⟨y, hy, decide_eq_true h4⟩)
        have := order_is.anti c y
        omega
      have hf1 : l.filter (fun x => decide (x.order c < 0)) = l := List.filter_eq_self.2 fun y hy => decide_eq_true (hall y hy)
      have hf2 : l.filter (fun x => decide (c.order x < 0)) = [] := List.filter_eq_nil_iff.2 fun y hy => by
        have := hall y hy
        have := order_is.anti c y
        simp; omega
      have hany' : l.any (fun x => decide (c.order x ≤ 0)) = false := by simpa using hany
      rw [List.any_append, hany', List.filter_append, List.filter_append, hf1, hf2]
      rcases Int.lt_trichotomy (c.order x) 0 with h3 | h3 | h3
      · have h4 : ¬ c.order x = 0 := by omega
        have h5 : ¬ x.order c < 0 := by omega
        have h6 : c.order x ≤ 0 := by omega
        simp [insStep, h3, h4, h5, h6]
      · have h5 : ¬ x.order c < 0 := by omega
        simp [insStep, h3, h5]
      · have h4 : ¬ c.order x = 0 := by omega
        have h5 : x.order c < 0 := by omega
        have h6 : ¬ c.order x ≤ 0 := by omega
        have h7 : ¬ c.order x < 0 := by omega
        simp [insStep, h4, h6]
theorem insC_eq (c : Cell) (l : List Cell) (h : Rises l) : insC c l = l.filter (fun x => decide (x.order c < 0)) ++ c :: l.filter (fun x => decide (c.order x < 0)) := by
  unfold insC
  rw [insAll_eq c l h]
  by_cases hany : l.any (fun x => decide (c.order x ≤ 0)) = true
  · rw [if_pos hany]; rfl
  · rw [if_neg hany]
    have hall : ∀ y ∈ l, y.order c < 0 := fun y hy => by
      have h3 : ¬ c.order y ≤ 0 := fun h4 => hany (List.any_eq_true.2 ⟨y, hy, decide_eq_true h4⟩)
      have := order_is.anti c y
      omega
    have hf1 : l.filter (fun x => decide (x.order c < 0)) = l := List.filter_eq_self.2 fun y hy => decide_eq_true (hall y hy)
    have hf2 : l.filter (fun x => decide (c.order x < 0)) = [] := List.filter_eq_nil_iff.2 fun y hy => by
      have := hall y hy
      have := order_is.anti c y
      simp; omega
    rw [hf1, hf2]; rfl
theorem insC_rises (c : Cell) (l : List Cell) (h : Rises l) : Rises (insC c l) := by
  rw [insC_eq c l h]
  refine List.pairwise_append.2 ⟨h.filter _, List.pairwise_cons.2 ⟨fun y hy => of_decide_eq_true (List.mem_filter.1 hy).2, h.filter _⟩, fun a ha b hb => ?_⟩
  have h1 := of_decide_eq_true (List.mem_filter.1 ha).2
  rcases List.mem_cons.1 hb with rfl | hb
  · exact h1
  · have h2 := of_decide_eq_true (List.mem_filter.1 hb).2
    exact order_is.lt_le h1 (by omega)
theorem sortC_rises : ∀ l : List Cell, Rises (sortC l) := by
  intro l
  induction l using snoc_ind with
  | h0 => exact List.Pairwise.nil
  | h1 l c ih =>
    rw [sortC_snoc]
    split
    · exact insC_rises c _ ih
    · exact ih
theorem sortC_ok : ∀ l : List Cell, ∀ c ∈ sortC l, c.ok = true := by
  intro l
  induction l using snoc_ind with
  | h0 => intro c hc; cases hc
  | h1 l c ih =>
    intro x hx
    rw [sortC_snoc] at hx
    split at hx
    · rcases insC_mem c _ x hx with h | h
      · exact ih x h
      · rw [h]; assumption
    · exact ih x hx
theorem begC_sort (l : List Cell) : begC (sortC l) = sortC l := begC_self (sortC_rises l) (sortC_ok l)
end Go.Proofs.YtmabmnkdigdaiaaDoor
