/-
  Plain (cell): cells in order, each place once, the last one of it; sorted cells, made once.
-/
import Derived.Test.YtndmlldaebdnmaaDoorCSeen2
namespace Go.Proofs.YtndmlldaebdnmaaDoor
open Go.RowKit

/-- A cell is put among cells that rise: in its place's stead. -/
def putIn (c : Cell) (l : List Cell) : List Cell := l.filter (fun x => decide (x.order c < 0)) ++ c :: l.filter (fun x => decide (c.order x < 0))
def sortL (l : List Cell) : List Cell := l.foldl (fun out c => if c.ok = true then putIn c out else out) []
theorem sortL_snoc (l : List Cell) (c : Cell) : sortL (l ++ [c]) = if c.ok = true then putIn c (sortL l) else sortL l := by simp [sortL, List.foldl_append]
theorem snoc_rec {α : Type} {P : List α → Prop} (h0 : P []) (h1 : ∀ l a, P l → P (l ++ [a])) : ∀ l, P l := by
  intro l
  have : ∀ n (l : List α), l.length = n → P l := by
    intro n
    induction n with
    | zero => intro l hl; rw [List.eq_nil_of_length_eq_zero hl]; exact h0
    | succ n ih =>
      intro l hl
      have hne : l ≠ [] := fun h => by rw [h] at hl; cases hl
      rw [← List.dropLast_concat_getLast hne]
      exact h1 _ _ (ih _ (by rw [List.length_dropLast, hl]; rfl))
  exact this _ l rfl
theorem mem_putIn {c x : Cell} {l : List Cell} : x ∈ putIn c l ↔ x = c ∨ (x ∈ l ∧ x.order c ≠ 0) := by
  unfold putIn
  rw [List.mem_append, List.mem_cons, List.mem_filter, List.mem_filter, decide_eq_true_eq, decide_eq_true_eq]
  have := order_is.anti c x
  constructor
  · rintro (⟨h, h2⟩ | h | ⟨h, h2⟩)
    · exact .inr ⟨h, by omega⟩
    · exact .inl h
    · exact .inr ⟨h, by omega⟩
  · rintro (h | ⟨h, h2⟩)
    · exact .inr (.inl h)
    · by_cases h3 : x.order c < 0
      · exact .inl ⟨h, h3⟩
      · exact .inr (.inr ⟨h, by omega⟩)
theorem putIn_rises (c : Cell) (l : List Cell) (h : Rises l) : Rises (putIn c l) := by
  unfold putIn Rises
  rw [List.pairwise_append]
  refine ⟨h.filter _, List.pairwise_cons.2 ⟨fun x hx => ?_, h.filter _⟩, fun x hx y hy => ?_⟩
  · exact of_decide_eq_true (List.mem_filter.1 hx).2
  · have h1 : x.order c < 0 := of_decide_eq_true (List.mem_filter.1 hx).2
    rcases List.mem_cons.1 hy with rfl | hy
    · exact h1
    · have h2 : c.order y < 0 := of_decide_eq_true (List.mem_filter.1 hy).2
      have h3 := order_is.trans x c y (by omega) (by omega)
      rcases Int.lt_or_eq_of_le h3 with h4 | h4
      · exact h4
      · exfalso
        have a1 := order_is.anti x y
        have a2 := order_is.trans y x c (by omega) (by omega)
        have a3 := order_is.anti c y
        omega
theorem sortL_rises : ∀ l : List Cell, Rises (sortL l) := snoc_rec List.Pairwise.nil fun l c ih => by
  rw [sortL_snoc]
  split
  · exact putIn_rises c _ ih
  · exact ih
/-- x is the last right cell of its place in l. -/
def LastIn (l : List Cell) (x : Cell) : Prop := ∃ a b, l = a ++ x :: b ∧ x.ok = true ∧ ∀ y ∈ b, y.ok = true → y.order x ≠ 0
theorem last_snoc {l : List Cell} {c x : Cell} : LastIn (l ++ [c]) x ↔ (x = c ∧ c.ok = true) ∨ (LastIn l x ∧ (c.ok = true → c.order x ≠ 0)) := by
  constructor
  · rintro ⟨a, b, h1, h2, h3⟩
    rcases List.eq_nil_or_concat b with rfl | ⟨b', y, rfl⟩
    · have h4 := List.append_inj' h1 rfl
      have : x = c := by have := h4.2; simpa using this.symm
      subst this
      exact .inl ⟨rfl, h2⟩
    · right
      rw [List.concat_eq_append, ← List.cons_append, ← List.append_assoc] at h1
      have h4 := List.append_inj' h1 rfl
      have hy : c = y := by have := h4.2; simpa using this
      subst hy
      refine ⟨⟨a, b', h4.1, h2, fun z hz hk => h3 z (by simp [hz]) hk⟩, fun hk => h3 c (by simp) hk⟩
  · rintro (⟨rfl, h⟩ | ⟨⟨a, b, rfl, h2, h3⟩, h4⟩)
    · exact ⟨l, [], rfl, h, fun y hy => by cases hy⟩
    · refine ⟨a, b ++ [c], by simp, h2, fun y hy hk => ?_⟩
      rcases List.mem_append.1 hy with hy | hy
      · exact h3 y hy hk
      · simp only [List.mem_cons, List.not_mem_nil, or_false] at hy
        subst hy; exact h4 hk
theorem mem_sortL : ∀ (l : List Cell) (x : Cell), x ∈ sortL l ↔ LastIn l x := by
  refine snoc_rec (fun x => ?_) fun l c ih x => ?_
  · constructor
    · intro h; cases h
    · rintro ⟨a, b, h, _⟩
      cases a <;> cases h
  · rw [sortL_snoc, last_snoc]
    have := order_is.anti c x
    by_cases hk : c.ok = true
    · rw [if_pos hk, mem_putIn, ih]
      constructor
      · rintro (rfl | ⟨h1, h2⟩)
        · exact .inl ⟨rfl, hk⟩
        · exact .inr ⟨h1, fun _ => by omega⟩
      · rintro (⟨rfl, _⟩ | ⟨h1, h2⟩)
        · exact .inl rfl
        · exact .inr ⟨h1, by have := h2 hk; omega⟩
    · rw [if_neg hk, ih]
      constructor
      · exact fun h => .inr ⟨h, fun h2 => absurd h2 hk⟩
      · rintro (⟨rfl, h⟩ | ⟨h, _⟩)
        · exact absurd h hk
        · exact h
theorem sortL_ok {l : List Cell} {c : Cell} (h : c ∈ sortL l) : c.ok = true := by
  obtain ⟨_, _, _, h2, _⟩ := (mem_sortL l c).1 h
  exact h2
theorem sortL_sub {l : List Cell} {c : Cell} (h : c ∈ sortL l) : c ∈ l := by
  obtain ⟨a, b, rfl, _⟩ := (mem_sortL l c).1 h
  simp
/-- Of cells that are apart, each right one is the last of its place. -/
theorem last_apart {l : List Cell} (h : l.Pairwise fun a b => a.order b ≠ 0) {x : Cell} (hx : x ∈ l) (hk : x.ok = true) : LastIn l x := by
  obtain ⟨a, b, rfl⟩ := List.append_of_mem hx
  refine ⟨a, b, rfl, hk, fun y hy _ => ?_⟩
  have h1 := (List.pairwise_cons.1 (List.pairwise_append.1 h).2.1).1 y hy
  have := order_is.anti x y
  omega
/-- Cells that rise and are right are sorted, and so is each row of the same cells. -/
theorem sortL_perm {S M : List Cell} (hS : Rises S) (hk : ∀ c ∈ S, c.ok = true) (hp : M.Perm S) : sortL M = S := by
  refine rises_ext (sortL_rises M) hS fun x => ?_
  constructor
  · exact fun h => hp.mem_iff.1 (sortL_sub h)
  · intro h
    rw [mem_sortL]
    refine last_apart ?_ (hp.mem_iff.2 h) (hk x h)
    have hs : S.Pairwise fun a b => a.order b ≠ 0 := hS.imp fun {a b} h => by omega
    exact hs.perm hp.symm (fun {a b} h => by have := order_is.anti a b; omega)
theorem ok_bare {c : Cell} (h : c.ok = true) : 1 ≤ c.row.size ∧ (1 ≤ c.kind ∧ c.kind ≤ 4) ∧ (c.kind = 4 → c.qual = ⟨#[]⟩) := by
  unfold Cell.ok at h
  simp only [Bool.and_eq_true, decide_eq_true_eq] at h
  obtain ⟨h1, h2, h3, h4, h5, h6, h7⟩ := h
  refine ⟨by omega, ?_, fun h8 => ?_⟩
  · have hk := h7
    unfold kindOk at hk
    split at hk
    · omega
    · split at hk
      · omega
      · split at hk
        · omega
        · split at hk
          · omega
          · cases hk
  · unfold kindOk at h7
    rw [if_neg (by omega), if_neg (by omega), if_neg (by omega), if_pos h8] at h7
    have h9 := (Bool.and_eq_true _ _ ▸ h7).2
    have h10 : c.qual.size = 0 := of_decide_eq_true h9
    generalize c.qual = q at h10 ⊢
    cases q with | mk d => cases d with | mk l =>
    cases l with
    | nil => rfl
    | cons a t => cases h10
theorem sortL_tame (l : List Cell) : Tame (sortL l) := ⟨sortL_rises l, fun _ hc => (ok_bare (sortL_ok hc)).1, fun _ hc => (ok_bare (sortL_ok hc)).2.1, fun _ hc => (ok_bare (sortL_ok hc)).2.2⟩
/-- What is to be seen. -/
def seenL (v life now : Int) (l : List Cell) : List Cell := if v < 1 ∨ 8 < v ∨ life < 0 then [] else seenF v life now Sv.start (sortL l)
theorem seenL_eq {v life now : Int} {l : List Cell} (h : ¬ (v < 1 ∨ 8 < v ∨ life < 0)) : seenL v life now l = (sortL l).filter (shownB v (sortL l) life now) := by
  unfold seenL
  rw [if_neg h]
  exact seen_eq (sortL_tame l)
end Go.Proofs.YtndmlldaebdnmaaDoor
