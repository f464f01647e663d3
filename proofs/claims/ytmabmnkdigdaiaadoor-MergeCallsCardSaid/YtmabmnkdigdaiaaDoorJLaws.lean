/-
  Plain laws of runs made one: in parts, split, behind a Skip.
-/
import Derived.Test.YtmabmnkdigdaiaaDoorJFirst
namespace Go.Proofs.YtmabmnkdigdaiaaDoor
open Go.RowKit

theorem merged_ex : ∀ (n : Nat) (L : List (List Cell)), leftC L ≤ n → ∃ out, Merged L out := by
  intro n
  induction n with
  | zero =>
    intro L h
    refine ⟨[], .done fun l hl => ?_⟩
    rcases best_or L with h1 | ⟨t, c, h1⟩
    · exact h1 l hl
    · have := leftC_next h1; omega
  | succ n ih =>
    intro L h
    rcases best_or L with h1 | ⟨t, c, h1⟩
    · exact ⟨[], .done h1⟩
    · obtain ⟨out, ho⟩ := ih (nextD c L) (by have := leftC_next h1; omega)
      exact ⟨c :: out, .step h1 ho⟩
/-- Of each place there is a first cell. -/
theorem first_place {L : List (List Cell)} : ∀ (j : Nat) (l : List Cell) (y : Cell), L[j]? = some l → y ∈ l → ∃ z, First L z ∧ z.order y = 0 := by
  intro j
  induction j using Nat.strongRecOn with
  | ind j ih =>
    intro l y hl hy
    by_cases h : ∃ (i : Nat) (m : List Cell) (z : Cell), i < j ∧ L[i]? = some m ∧ z ∈ m ∧ z.order y = 0
    · obtain ⟨i, m, z, h1, h2, h3, h4⟩ := h
      obtain ⟨q, hq, hz⟩ := ih i h1 m z h2 h3
      exact ⟨q, hq, order_is.eq_eq hz h4⟩
    · exact ⟨y, ⟨j, l, hl, hy, fun i m hi hm z hz e => h ⟨i, m, z, hi, hm, hz, e⟩⟩, order_is.refl y⟩
theorem first_two {a b : List Cell} {x : Cell} : First [a, b] x ↔ x ∈ a ∨ (x ∈ b ∧ ∀ y ∈ a, y.order x ≠ 0) := by
  constructor
  · rintro ⟨i, l, h1, h2, h3⟩
    match i, h1 with
    | 0, h1 => simp at h1; subst h1; exact .inl h2
    | 1, h1 =>
      simp at h1; subst h1
      exact .inr ⟨h2, h3 0 a (by omega) rfl⟩
    | i + 2, h1 => simp at h1
  · rintro (h | ⟨h1, h2⟩)
    · exact ⟨0, a, rfl, h, fun j m hj => by omega⟩
    · refine ⟨1, b, rfl, h1, fun j m hj hm => ?_⟩
      obtain rfl : j = 0 := by omega
      simp at hm; subst hm
      exact h2
/-- Runs can be made one in parts. -/
theorem merged_parts {L : List (List Cell)} {at_ : Nat} {a b m m' : List Cell} (hs : ∀ l ∈ L, Rises l) (ha : Merged (L.take at_) a) (hb : Merged (L.drop at_) b) (hm : Merged [a, b] m) (hm' : Merged L m') : m = m' := by
  obtain ⟨a1, a2⟩ := merged_first ha (fun l hl => hs l (List.mem_of_mem_take hl))
  obtain ⟨b1, b2⟩ := merged_first hb (fun l hl => hs l (List.mem_of_mem_drop hl))
  obtain ⟨m1, m2⟩ := merged_first hm (fun l hl => by
    rcases List.mem_cons.1 hl with rfl | hl
    · exact a1
    · simp at hl; subst hl; exact b1)
  obtain ⟨n1, n2⟩ := merged_first hm' hs
  refine rises_ext m1 n1 fun x => ?_
  rw [m2, n2, first_two, a2, b2]
  constructor
  · rintro (⟨i, l, h1, h2, h3⟩ | ⟨⟨i, l, h1, h2, h3⟩, h4⟩)
    · rw [List.getElem?_take] at h1
      split at h1
      · rename_i hi
        refine ⟨i, l, h1, h2, fun j q hj hq => h3 j q hj ?_⟩
        rw [List.getElem?_take, if_pos (by omega)]; exact hq
      · cases h1
    · rw [List.getElem?_drop] at h1
      refine ⟨at_ + i, l, h1, h2, fun j q hj hq y hy e => ?_⟩
      by_cases hja : j < at_
      · obtain ⟨z, hz, hzy⟩ := first_place (L := L.take at_) j q y (by rw [List.getElem?_take, if_pos hja]; exact hq) hy
        exact h4 z ((a2 z).2 hz) (order_is.eq_eq hzy e)
      · exact h3 (j - at_) q (by omega) (by rw [List.getElem?_drop, show at_ + (j - at_) = j from by omega]; exact hq) y hy e
  · rintro ⟨i, l, h1, h2, h3⟩
    by_cases hi : i < at_
    · left
      refine ⟨i, l, by rw [List.getElem?_take, if_pos hi]; exact h1, h2, fun j q hj hq => h3 j q hj ?_⟩
      rw [List.getElem?_take, if_pos (by omega)] at hq; exact hq
    · right
      refine ⟨⟨i - at_, l, by rw [List.getElem?_drop, show at_ + (i - at_) = i from by omega]; exact h1, h2, fun j q hj hq => h3 (at_ + j) q (by omega) (by rw [List.getElem?_drop] at hq; exact hq)⟩, fun y hy e => ?_⟩
      obtain ⟨j, q, hq, hyq, _⟩ := (a2 y).1 hy
      rw [List.getElem?_take] at hq
      split at hq
      · exact h3 j q (by omega) hq y hyq e
      · cases hq
/-- Split at a row, and made one again, a run is itself. -/
theorem merged_halves {s m : List Cell} {at_ : ByteArray} (h : Rises s) (hm : Merged [belowC at_ s, othersC at_ s] m ∨ Merged [othersC at_ s, belowC at_ s] m) : m = s := by
  have h1 : Rises (belowC at_ s) := h.filter _
  have h2 : Rises (othersC at_ s) := h.filter _
  have hne : ∀ x ∈ s, ∀ y ∈ s, y.order x = 0 → y = x := by
    intro x hx y hy e
    obtain ⟨i, hi, rfl⟩ := List.getElem_of_mem hx
    obtain ⟨j, hj, rfl⟩ := List.getElem_of_mem hy
    rcases Nat.lt_trichotomy i j with hl | hl | hl
    · have := List.pairwise_iff_getElem.1 h i j hi hj hl
      have := order_is.anti s[i] s[j]; omega
    · subst hl; rfl
    · have := List.pairwise_iff_getElem.1 h j i hj hi hl; omega
  have hmemb : ∀ x, x ∈ belowC at_ s ↔ x ∈ s ∧ cmpS x.row at_ < 0 := fun x => by simp [belowC]
  have hmemo : ∀ x, x ∈ othersC at_ s ↔ x ∈ s ∧ ¬ cmpS x.row at_ < 0 := fun x => by simp [othersC]
  rcases hm with hm | hm
  · obtain ⟨m1, m2⟩ := merged_first hm (fun l hl => by
      rcases List.mem_cons.1 hl with rfl | hl
      · exact h1
      · simp at hl; subst hl; exact h2)
    refine rises_ext m1 h fun x => ?_
    rw [m2, first_two, hmemb, hmemo]
    constructor
    · rintro (h | h)
      · exact h.1
      · exact h.1.1
    · intro hx
      by_cases hc : cmpS x.row at_ < 0
      · exact .inl ⟨hx, hc⟩
      · refine .inr ⟨⟨hx, hc⟩, fun y hy e => ?_⟩
        have := hne x hx y ((hmemb y).1 hy).1 e
        subst this
        exact hc ((hmemb y).1 hy).2
  · obtain ⟨m1, m2⟩ := merged_first hm (fun l hl => by
      rcases List.mem_cons.1 hl with rfl | hl
      · exact h2
      · simp at hl; subst hl; exact h1)
    refine rises_ext m1 h fun x => ?_
    rw [m2, first_two, hmemb, hmemo]
    constructor
    · rintro (h | h)
      · exact h.1
      · exact h.1.1
    · intro hx
      by_cases hc : cmpS x.row at_ < 0
      · refine .inr ⟨⟨hx, hc⟩, fun y hy e => ?_⟩
        have := hne x hx y ((hmemo y).1 hy).1 e
        subst this
        exact ((hmemo y).1 hy).2 hc
      · exact .inl ⟨hx, hc⟩
/-- Behind a Skip what comes is what would have come behind all that is ahead of the cell. -/
theorem dropWhile_rises {l : List Cell} (h : Rises l) (c : Cell) : l.dropWhile (fun y => decide (y.order c < 0)) = l.filter (fun y => !decide (y.order c < 0)) := by
  induction l with
  | nil => rfl
  | cons d ys ih =>
    have h1 := List.pairwise_cons.1 h
    rw [List.dropWhile_cons, List.filter_cons]
    by_cases hd : d.order c < 0
    · simp only [hd, decide_true, if_true, Bool.not_true, Bool.false_eq_true, if_false]
      exact ih h1.2
    · simp only [hd, decide_false, Bool.false_eq_true, if_false, Bool.not_false, if_true]
      congr 1
      refine (List.filter_eq_self.2 fun y hy => ?_).symm
      have h2 := h1.1 y hy
      simp only [Bool.not_eq_true', decide_eq_false_iff_not]
      intro h3
      exact hd (order_is.lt_le h2 (by omega))
theorem merged_skips {L : List (List Cell)} {c : Cell} {m m' : List Cell} (hs : ∀ l ∈ L, Rises l) (hm : Merged (skipD c L) m) (hm' : Merged L m') : m = m'.filter (fun y => !decide (y.order c < 0)) := by
  obtain ⟨m1, m2⟩ := merged_first hm (rises_map hs _)
  obtain ⟨n1, n2⟩ := merged_first hm' hs
  have hget : ∀ (i : Nat), (skipD c L)[i]? = (L[i]?).map fun l => l.filter (fun y => !decide (y.order c < 0)) := fun i => by
    rw [skipD, List.getElem?_map]
    cases hl : L[i]? with
    | none => rfl
    | some l => exact congrArg some (dropWhile_rises (hs l (List.mem_of_getElem? hl)) c)
  refine rises_ext m1 (n1.filter _) fun x => ?_
  rw [m2, List.mem_filter, n2]
  constructor
  · rintro ⟨i, l, h1, h2, h3⟩
    rw [hget] at h1
    cases hl : L[i]? with
    | none => rw [hl] at h1; cases h1
    | some q =>
      rw [hl] at h1
      injection h1 with h1
      subst h1
      have hx := List.mem_filter.1 h2
      refine ⟨⟨i, q, hl, hx.1, fun j r hj hr y hy e => ?_⟩, hx.2⟩
      refine h3 j _ hj (by rw [hget, hr]; rfl) y (List.mem_filter.2 ⟨hy, ?_⟩) e
      have := (order_is.left e c).1
      have hx2 := hx.2
      simp only [Bool.not_eq_true', decide_eq_false_iff_not] at hx2 ⊢
      exact fun h => hx2 (this.1 h)
  · rintro ⟨⟨i, l, h1, h2, h3⟩, h4⟩
    refine ⟨i, _, by rw [hget, h1]; rfl, List.mem_filter.2 ⟨h2, h4⟩, fun j r hj hr y hy e => ?_⟩
    rw [hget] at hr
    cases hl : L[j]? with
    | none => rw [hl] at hr; cases hr
    | some q =>
      rw [hl] at hr
      injection hr with hr
      subst hr
      exact h3 j q hj hl y (List.mem_filter.1 hy).1 e
end Go.Proofs.YtmabmnkdigdaiaaDoor
