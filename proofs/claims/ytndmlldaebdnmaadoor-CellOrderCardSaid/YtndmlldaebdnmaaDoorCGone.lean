/-
  Plain (cell): CellGone: what is told to be gone isn't seen; all else is. CellFew: no column has more versions.
-/
import Derived.Test.YtndmlldaebdnmaaDoorCApart
namespace Go.Proofs.YtndmlldaebdnmaaDoor
open Go.RowKit

/-- Of two lists that rise one lies in the other, in order, if its cells do. -/
theorem rises_sublist {a b : List Cell} (ha : Rises a) (hb : Rises b) (h : ∀ x ∈ a, x ∈ b) : a.Sublist b := by
  classical
  have e : a = b.filter (fun x => decide (x ∈ a)) := by
    refine rises_ext ha (hb.filter _) fun x => ?_
    rw [List.mem_filter, decide_eq_true_eq]
    exact ⟨fun hx => ⟨h x hx, hx⟩, fun hx => hx.2⟩
  rw [e]
  exact List.filter_sublist
theorem filter_le {α : Type} {p q : α → Bool} : ∀ {l : List α}, (∀ y ∈ l, p y = true → q y = true) → (l.filter p).length ≤ (l.filter q).length
  | [], _ => Nat.le_refl _
  | b :: l, h => by
    have h1 := filter_le (p := p) (q := q) (l := l) (fun y hy => h y (List.mem_cons_of_mem _ hy))
    rw [List.filter_cons, List.filter_cons]
    cases hb : p b with
    | true => rw [h b (by simp) hb]; simp; omega
    | false => cases q b <;> simp <;> omega
/-- Does a cell tell that a put is gone? As the law's hit tells it. -/
def hitL (d c : Cell) : Bool :=
  if groupB d c = false then false
  else if d.kind = 4 then decide (c.time ≤ d.time)
  else if d.kind = 3 then decide (c.qual = d.qual) && decide (c.time ≤ d.time)
  else decide (c.qual = d.qual) && decide (c.time = d.time)
theorem hit_hits {d c : Cell} (hc : c.kind = 1) (h1 : d.kind ≠ 1) (h2 : 1 ≤ d.kind ∧ d.kind ≤ 4) : hitL d c = hitsB d c := by
  unfold hitL hitsB
  by_cases hg : groupB d c = true
  · rw [if_neg (by rw [hg]; decide), hg, Bool.true_and]
    by_cases h4 : d.kind = 4
    · rw [if_pos h4, decide_eq_true h4, decide_eq_false (show d.kind ≠ 3 by omega), decide_eq_false (show d.kind ≠ 2 by omega)]
      simp
    · rw [if_neg h4, decide_eq_false h4]
      have hcol : colB d c = decide (c.qual = d.qual) := by
        unfold colB
        rw [hg, decide_eq_true (show d.kind ≠ 4 from h4), decide_eq_true (show c.kind ≠ 4 by omega)]
        simp [eq_comm]
      by_cases h3 : d.kind = 3
      · rw [if_pos h3, decide_eq_true h3, decide_eq_false (show d.kind ≠ 2 by omega), hcol]
        simp
      · rw [if_neg h3, decide_eq_false h3, decide_eq_true (show d.kind = 2 by omega), hcol]
        simp [eq_comm]
  · have hg' : groupB d c = false := by simpa using hg
    have hcol : colB d c = false := by unfold colB; rw [hg', Bool.false_and]
    rw [if_pos hg', hg', hcol]
    simp
theorem vis_kind1 {S : List Cell} {life now : Int} {c : Cell} (h : visB S life now c = true) : c.kind = 1 := by
  unfold visB at h
  simp only [Bool.and_eq_true, decide_eq_true_eq] at h
  exact h.1
theorem vis_free {S : List Cell} {life now : Int} {c d : Cell} (h : visB S life now c = true) (hd : d ∈ S) : hitsB d c = false := by
  unfold visB at h
  simp only [Bool.and_eq_true, Bool.not_eq_true', List.any_eq_false] at h
  have := h.2.1 d hd
  simpa using this
theorem hits_same {y d x : Cell} (h : y.order d = 0) : hitsB y x = hitsB d x := by
  obtain ⟨e1, e2, e3, e4, e5⟩ := order_zero h
  unfold hitsB colB groupB
  rw [e1, e2, e3, e4, e5]
/-- CellGone's plain part. -/
theorem seen_gone {l : List Cell} {d : Cell} {v now : Int} (hd : d.ok = true) (h1 : d.kind ≠ 1) :
    (∀ c ∈ seenL v 0 now (l ++ [d]), hitL d c = false) ∧ ((seenL v 0 now l).filter fun c => !hitL d c).Sublist (seenL v 0 now (l ++ [d])) := by
  have hk := (ok_bare hd).2.1
  by_cases hv : v < 1 ∨ 8 < v ∨ (0 : Int) < 0
  · unfold seenL
    rw [if_pos hv, if_pos hv]
    exact ⟨fun c hc => (by cases hc), List.Sublist.refl _⟩
  · have hS' : sortL (l ++ [d]) = putIn d (sortL l) := by rw [sortL_snoc, if_pos hd]
    have hdS : d ∈ sortL (l ++ [d]) := by rw [hS', mem_putIn]; exact .inl rfl
    have hmem : ∀ x, x ∈ sortL (l ++ [d]) ↔ x = d ∨ (x ∈ sortL l ∧ x.order d ≠ 0) := fun x => by rw [hS', mem_putIn]
    have hR := sortL_rises l
    have hR' := sortL_rises (l ++ [d])
    rw [seenL_eq hv, seenL_eq hv]
    generalize sortL (l ++ [d]) = T at *
    generalize sortL l = S at *
    have hdif : ∀ x : Cell, x.kind = 1 → x.order d ≠ 0 := fun x hx h0 => h1 (by rw [← (order_zero h0).2.2.2.2]; exact hx)
    -- what is seen with d is seen without it
    have hvis : ∀ x, visB T 0 now x = true → visB S 0 now x = true := fun x hx => by
      have hx1 := vis_kind1 hx
      have hlv := livesB_of hx
      unfold visB
      rw [decide_eq_true hx1, hlv, Bool.true_and, Bool.and_true, Bool.not_eq_true', List.any_eq_false]
      intro y hy
      by_cases h0 : y.order d = 0
      · rw [hits_same h0, vis_free hx hdS]; decide
      · rw [vis_free hx ((hmem y).2 (.inr ⟨hy, h0⟩))]; decide
    have hT : ∀ (p : Cell → Bool), (∀ x, p x = true → x.kind = 1) → T.filter p = S.filter p := fun p hp => by
      refine rises_ext (hR'.filter _) (hR.filter _) fun x => ?_
      rw [List.mem_filter, List.mem_filter, hmem]
      constructor
      · rintro ⟨rfl | ⟨h2, _⟩, h3⟩
        · exact absurd (hp _ h3) h1
        · exact ⟨h2, h3⟩
      · rintro ⟨h2, h3⟩
        exact ⟨.inr ⟨h2, hdif x (hp x h3)⟩, h3⟩
    have hrank : ∀ c, rankC T 0 now c ≤ rankC S 0 now c := fun c => by
      unfold rankC
      rw [hT _ (fun x hx => by
        simp only [Bool.and_eq_true] at hx
        exact vis_kind1 hx.2.1)]
      refine filter_le fun x _ hx => ?_
      simp only [Bool.and_eq_true] at hx ⊢
      exact ⟨hx.1, hvis x hx.2.1, hx.2.2⟩
    constructor
    · intro c hc
      obtain ⟨_, hs⟩ := List.mem_filter.1 hc
      unfold shownB at hs
      rw [Bool.and_eq_true] at hs
      rw [hit_hits (vis_kind1 hs.1) h1 hk]
      exact vis_free hs.1 hdS
    · refine rises_sublist ((hR.filter _).filter _) (hR'.filter _) fun c hc => ?_
      rw [List.mem_filter, List.mem_filter] at hc
      obtain ⟨⟨hcS, hs⟩, hh⟩ := hc
      unfold shownB at hs
      rw [Bool.and_eq_true, decide_eq_true_eq] at hs
      have hk1 := vis_kind1 hs.1
      rw [hit_hits hk1 h1 hk] at hh
      have hh' : hitsB d c = false := by simpa using hh
      rw [List.mem_filter]
      refine ⟨(hmem c).2 (.inr ⟨hcS, hdif c hk1⟩), ?_⟩
      have hvT : visB T 0 now c = true := by
        unfold visB
        rw [decide_eq_true hk1, livesB_of hs.1, Bool.true_and, Bool.and_true, Bool.not_eq_true', List.any_eq_false]
        intro y hy
        rcases (hmem y).1 hy with rfl | ⟨h2, _⟩
        · rw [hh']; decide
        · rw [vis_free hs.1 h2]; decide
      unfold shownB
      rw [hvT, Bool.true_and, decide_eq_true_eq]
      have := hrank c
      omega
/-- CellFew's plain part: so many are ahead of a seen cell in its column. -/
theorem seen_few {v life now : Int} {l : List Cell} {c : Cell} (hc : c ∈ seenL v life now l) : (((seenL v life now l).filter fun x => decide (x.order c < 0) && colB x c).length : Int) + 1 ≤ v := by
  by_cases hv : v < 1 ∨ 8 < v ∨ life < 0
  · unfold seenL at hc; rw [if_pos hv] at hc; cases hc
  · rw [seenL_eq hv] at hc ⊢
    obtain ⟨_, hs⟩ := List.mem_filter.1 hc
    unfold shownB at hs
    rw [Bool.and_eq_true, decide_eq_true_eq] at hs
    have : (((sortL l).filter (shownB v (sortL l) life now)).filter fun x => decide (x.order c < 0) && colB x c).length ≤ rankC (sortL l) life now c := by
      unfold rankC
      rw [List.filter_filter]
      refine filter_le fun x _ hx => ?_
      simp only [Bool.and_eq_true] at hx ⊢
      have h2 := hx.2
      unfold shownB at h2
      rw [Bool.and_eq_true] at h2
      exact ⟨hx.1.1, h2.1, hx.1.2⟩
    omega
/-- .. and of one column later ones are ahead. -/
theorem seen_falls {v life now : Int} {l : List Cell} {a b : Cell} (ha : a ∈ seenL v life now l) (hb : b ∈ seenL v life now l) (ho : a.order b < 0) (hc : colB a b = true) : b.time < a.time := by
  have k1 := (seenL_sub ha).2
  have k2 := (seenL_sub hb).2
  have := col_times ho hc
  omega
end Go.Proofs.YtndmlldaebdnmaaDoor
