/-
  Plain (cell): CellApart: families of rows are nothing to each other. CellOrder: what is seen doesn't hang on the order of cells.
-/
import Derived.Test.YtndmlldaebdnmaaDoorCSame
namespace Go.Proofs.YtndmlldaebdnmaaDoor
open Go.RowKit

theorem order_zero {a b : Cell} (h : a.order b = 0) : a.row = b.row ∧ a.fam = b.fam ∧ a.qual = b.qual ∧ a.time = b.time ∧ a.kind = b.kind := by
  have e1 : ∀ x l, orI (x :: l) = 0 ↔ x = 0 ∧ orI l = 0 := fun x l => by
    show (if x = 0 then orI l else x) = 0 ↔ _
    by_cases h : x = 0
    · rw [if_pos h]; simp [h]
    · rw [if_neg h]; simp [h]
  unfold Cell.order at h
  rw [e1, e1, e1, e1, e1, e1] at h
  simp only [cmpS_zero, cmpI_zero] at h
  exact ⟨h.1, h.2.1, h.2.2.2.1, h.2.2.2.2.1.symm, h.2.2.2.2.2.1.symm⟩
/-- Is a cell of this family of this row? -/
def ofB (row fam : ByteArray) (c : Cell) : Bool := decide (c.row = row) && decide (c.fam = fam)
theorem of_group {row fam : ByteArray} {a b : Cell} (h : groupB a b = true) : ofB row fam a = ofB row fam b := by
  rw [group_iff] at h
  unfold ofB
  rw [h.1, h.2]
theorem sort_of (row fam : ByteArray) : ∀ l : List Cell, sortL (l.filter (ofB row fam)) = (sortL l).filter (ofB row fam) := snoc_rec rfl fun l c ih => by
  refine rises_ext (sortL_rises _) ((sortL_rises _).filter _) fun x => ?_
  rw [List.filter_append, List.mem_filter, sortL_snoc]
  by_cases hg : ofB row fam c = true
  · have e : [c].filter (ofB row fam) = [c] := by simp [hg]
    rw [e, sortL_snoc, ih]
    by_cases hk : c.ok = true
    · rw [if_pos hk, if_pos hk, mem_putIn, mem_putIn, List.mem_filter]
      constructor
      · rintro (rfl | ⟨⟨h1, h2⟩, h3⟩)
        · exact ⟨.inl rfl, hg⟩
        · exact ⟨.inr ⟨h1, h3⟩, h2⟩
      · rintro ⟨rfl | ⟨h1, h3⟩, h2⟩
        · exact .inl rfl
        · exact .inr ⟨⟨h1, h2⟩, h3⟩
    · rw [if_neg hk, if_neg hk, List.mem_filter]
  · have e : [c].filter (ofB row fam) = [] := by simp [hg]
    rw [e, List.append_nil, ih, List.mem_filter]
    by_cases hk : c.ok = true
    · rw [if_pos hk, mem_putIn]
      constructor
      · rintro ⟨h1, h2⟩
        refine ⟨.inr ⟨h1, fun h0 => ?_⟩, h2⟩
        have hz := order_zero h0
        rw [of_group (group_iff.2 ⟨hz.1, hz.2.1⟩)] at h2
        exact hg h2
      · rintro ⟨rfl | ⟨h1, _⟩, h2⟩
        · exact absurd h2 hg
        · exact ⟨h1, h2⟩
    · rw [if_neg hk]
theorem hits_group {d c : Cell} (h : hitsB d c = true) : groupB d c = true := by
  unfold hitsB at h
  simp only [Bool.or_eq_true, Bool.and_eq_true, decide_eq_true_eq] at h
  rcases h with h | h | h
  · exact h.2.1
  · exact col_group h.2.1
  · exact col_group h.2.1
theorem vis_of {S : List Cell} {row fam : ByteArray} {life now : Int} {c : Cell} (hg : ofB row fam c = true) : visB (S.filter (ofB row fam)) life now c = visB S life now c := by
  have : (S.filter (ofB row fam)).any (fun d => hitsB d c) = S.any (fun d => hitsB d c) := by
    rw [Bool.eq_iff_iff, List.any_eq_true, List.any_eq_true]
    constructor
    · rintro ⟨d, hd, h⟩
      exact ⟨d, (List.mem_filter.1 hd).1, h⟩
    · rintro ⟨d, hd, h⟩
      exact ⟨d, List.mem_filter.2 ⟨hd, by rw [of_group (hits_group h)]; exact hg⟩, h⟩
  unfold visB
  rw [this]
theorem shown_of {S : List Cell} {row fam : ByteArray} {v life now : Int} {c : Cell} (hg : ofB row fam c = true) : shownB v (S.filter (ofB row fam)) life now c = shownB v S life now c := by
  have hr : rankC (S.filter (ofB row fam)) life now c = rankC S life now c := by
    unfold rankC
    rw [List.filter_filter]
    congr 1
    refine List.filter_congr fun x _ => ?_
    by_cases hco : colB x c = true
    · have hx : ofB row fam x = true := by rw [of_group (col_group hco)]; exact hg
      rw [vis_of hx, hx, Bool.and_true]
    · have : colB x c = false := by simpa using hco
      rw [this]; simp
  unfold shownB
  rw [vis_of hg, hr]
/-- CellApart's plain part. -/
theorem seen_apart (v life now : Int) (row fam : ByteArray) (l : List Cell) : seenL v life now (l.filter (ofB row fam)) = (seenL v life now l).filter (ofB row fam) := by
  by_cases hv : v < 1 ∨ 8 < v ∨ life < 0
  · unfold seenL; rw [if_pos hv, if_pos hv]; rfl
  · rw [seenL_eq hv, seenL_eq hv, sort_of, List.filter_filter, List.filter_filter]
    refine List.filter_congr fun c _ => ?_
    by_cases hg : ofB row fam c = true
    · rw [shown_of hg, hg, Bool.and_comm]
    · have : ofB row fam c = false := by simpa using hg
      rw [this]; simp
/-- CellOrder's plain part. -/
theorem seen_mixed {l M : List Cell} (hp : M.Perm (sortL l)) : sortL M = sortL l ∧ ∀ v life now, seenL v life now M = seenL v life now l := by
  have h := sortL_perm (sortL_rises l) (fun _ hc => sortL_ok hc) hp
  refine ⟨h, fun v life now => ?_⟩
  unfold seenL
  rw [h]
end Go.Proofs.YtndmlldaebdnmaaDoor
