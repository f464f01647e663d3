/-
  Plain (cell): CellSame: with what was seen alone the same is seen, now and later.
-/
import Derived.Test.YtndmlldaebdnmaaDoorCSort
namespace Go.Proofs.YtndmlldaebdnmaaDoor
open Go.RowKit

theorem seenL_sub {v life now : Int} {l : List Cell} {c : Cell} (h : c ∈ seenL v life now l) : c ∈ sortL l ∧ c.kind = 1 := by
  by_cases hv : v < 1 ∨ 8 < v ∨ life < 0
  · unfold seenL at h; rw [if_pos hv] at h; cases h
  · rw [seenL_eq hv] at h
    obtain ⟨h1, h2⟩ := List.mem_filter.1 h
    refine ⟨h1, ?_⟩
    unfold shownB visB at h2
    simp only [Bool.and_eq_true, decide_eq_true_eq] at h2
    exact h2.1.1
theorem seenL_rises (v life now : Int) (l : List Cell) : Rises (seenL v life now l) := by
  by_cases hv : v < 1 ∨ 8 < v ∨ life < 0
  · unfold seenL; rw [if_pos hv]; exact List.Pairwise.nil
  · rw [seenL_eq hv]; exact (sortL_rises l).filter _
theorem filter_lt {α : Type} {p q : α → Bool} {x : α} : ∀ {l : List α}, (∀ y ∈ l, p y = true → q y = true) → x ∈ l → q x = true → p x = false → (l.filter p).length < (l.filter q).length
  | [], _, hx, _, _ => by cases hx
  | a :: l, h, hx, hq, hp => by
    have hle : ∀ {l : List α}, (∀ y ∈ l, p y = true → q y = true) → (l.filter p).length ≤ (l.filter q).length := by
      intro l
      induction l with
      | nil => intro _; exact Nat.le_refl _
      | cons b l ih =>
        intro h
        have h1 := ih (fun y hy => h y (List.mem_cons_of_mem _ hy))
        rw [List.filter_cons, List.filter_cons]
        cases hb : p b with
        | true => rw [h b (by simp) hb]; simp; omega
        | false => cases q b <;> simp <;> omega
    rw [List.filter_cons, List.filter_cons]
    have h2 : ∀ y ∈ l, p y = true → q y = true := fun y hy => h y (List.mem_cons_of_mem _ hy)
    rcases List.mem_cons.1 hx with rfl | hx
    · rw [hq, hp]
      have := hle h2
      simp; omega
    · have := filter_lt h2 hx hq hp
      cases hb : p a with
      | true => rw [h a (by simp) hb]; simp; omega
      | false => cases q a <;> simp <;> omega
/-- What was seen is in order. -/
theorem sort_seen (v life now : Int) (l : List Cell) : sortL (seenL v life now l) = seenL v life now l :=
  sortL_perm (seenL_rises v life now l) (fun _ hc => sortL_ok (seenL_sub hc).1) (List.Perm.refl _)
/-- Of puts alone none is told to be gone. -/
theorem vis_puts {P : List Cell} {life now : Int} {c : Cell} (hP : ∀ d ∈ P, d.kind = 1) : visB P life now c = (decide (c.kind = 1) && livesB life now c) := by
  have : P.any (fun d => hitsB d c) = false := by
    rw [List.any_eq_false]
    intro d hd
    have := hP d hd
    unfold hitsB
    rw [decide_eq_false (show d.kind ≠ 4 by omega), decide_eq_false (show d.kind ≠ 3 by omega), decide_eq_false (show d.kind ≠ 2 by omega)]
    simp
  unfold visB
  rw [this]; simp
theorem lives_earlier {life now later : Int} {c : Cell} (hl : 0 ≤ life) (h : now ≤ later) (hc : livesB life later c = true) : livesB life now c = true := by
  unfold livesB at *
  simp only [Bool.or_eq_true, decide_eq_true_eq] at *
  omega
theorem lives_newer {life now : Int} {c d : Cell} (hc : livesB life now c = true) (h : c.time ≤ d.time) : livesB life now d = true := by
  unfold livesB at *
  simp only [Bool.or_eq_true, decide_eq_true_eq] at *
  omega
theorem vis_split {S : List Cell} {life now : Int} {c : Cell} : visB S life now c = ((decide (c.kind = 1) && !S.any (fun d => hitsB d c)) && livesB life now c) := by
  unfold visB; rw [Bool.and_assoc]
/-- What is to be seen later is to be seen now. -/
theorem vis_earlier {S : List Cell} {life now later : Int} {c : Cell} (hl : 0 ≤ life) (h : now ≤ later) (hc : visB S life later c = true) : visB S life now c = true := by
  rw [vis_split, Bool.and_eq_true] at *
  exact ⟨hc.1, lives_earlier hl h hc.2⟩
theorem vis_newer {S : List Cell} {life now later : Int} {c x : Cell} (hc : livesB life later c = true) (hx : visB S life now x = true) (ht : c.time ≤ x.time) : visB S life later x = true := by
  rw [vis_split, Bool.and_eq_true] at *
  exact ⟨hx.1, lives_newer hc ht⟩
theorem ahead_time {c x : Cell} (ho : x.order c < 0) (hc : colB x c = true) : c.time ≤ x.time := by
  have := col_times ho hc
  omega
/-- As many are ahead now as later, of what is to be seen later. -/
theorem rank_later {S : List Cell} {life now later : Int} {c : Cell} (hl : 0 ≤ life) (h : now ≤ later) (hc : livesB life later c = true) : rankC S life later c = rankC S life now c := by
  unfold rankC
  congr 1
  refine List.filter_congr fun x _ => ?_
  by_cases ho : x.order c < 0
  · by_cases hco : colB x c = true
    · rw [decide_eq_true ho, hco, Bool.true_and, Bool.true_and, Bool.and_true, Bool.and_true, Bool.eq_iff_iff]
      exact ⟨fun hx => vis_earlier hl h hx, fun hx => vis_newer hc hx (ahead_time ho hco)⟩
    · have : colB x c = false := by simpa using hco
      rw [this]; simp
  · rw [decide_eq_false ho]; simp
/-- What is ahead of a shown cell, and is to be seen, is shown. -/
theorem rank_mono {S : List Cell} {life now : Int} {c x : Cell} (ho : x.order c < 0) (hco : colB x c = true) (hx : x ∈ S) (hv : visB S life now x = true) : rankC S life now x < rankC S life now c := by
  unfold rankC
  have hsub : ∀ y ∈ S, (decide (y.order x < 0) && (visB S life now y && colB y x)) = true → (decide (y.order c < 0) && (visB S life now y && colB y c)) = true := by
    intro y _ hy
    simp only [Bool.and_eq_true, decide_eq_true_eq] at hy ⊢
    refine ⟨?_, hy.2.1, by rw [← col_trans hco]; exact hy.2.2⟩
    have h1 := order_is.trans y x c (by omega) (by omega)
    rcases Int.lt_or_eq_of_le h1 with h2 | h2
    · exact h2
    · exfalso
      have a1 := order_is.anti y c
      have a2 := order_is.trans x c y (by omega) (by omega)
      have a3 := order_is.anti x y
      omega
  have hirr : ¬ x.order x < 0 := by have := order_is.refl x; omega
  have hxin : (decide (x.order c < 0) && (visB S life now x && colB x c)) = true := by rw [decide_eq_true ho, hv, hco]; rfl
  have hxout : (decide (x.order x < 0) && (visB S life now x && colB x x)) = false := by rw [decide_eq_false hirr]; rfl
  exact filter_lt hsub hx hxin hxout
theorem livesB_of {S : List Cell} {life now : Int} {c : Cell} (h : visB S life now c = true) : livesB life now c = true := by
  rw [vis_split, Bool.and_eq_true] at h
  exact h.2
/-- CellSame's plain part: with what was seen now alone the same is seen later. -/
theorem same_later (v life now later : Int) (l : List Cell) (h : now ≤ later) : seenL v life later (seenL v life now l) = seenL v life later l := by
  by_cases hv : v < 1 ∨ 8 < v ∨ life < 0
  · unfold seenL; rw [if_pos hv, if_pos hv]
  · have hl : 0 ≤ life := by omega
    rw [seenL_eq (l := seenL v life now l) hv, sort_seen, seenL_eq (now := later) (l := l) hv]
    have hP : ∀ d ∈ seenL v life now l, d.kind = 1 := fun d hd => (seenL_sub hd).2
    generalize hPe : seenL v life now l = P at hP
    rw [seenL_eq hv] at hPe
    have hR := sortL_rises l
    generalize sortL l = S at hPe hR
    have hmem : ∀ x, x ∈ P ↔ x ∈ S ∧ shownB v S life now x = true := fun x => by rw [← hPe, List.mem_filter]
    have hkey : ∀ c ∈ S, (shownB v S life now c && shownB v P life later c) = shownB v S life later c := by
      intro c hc
      have hvp : visB P life later c = (decide (c.kind = 1) && livesB life later c) := vis_puts hP
      -- of a shown cell that lives later the ranks are the same
      have hrank : shownB v S life now c = true → livesB life later c = true → rankC P life later c = rankC S life now c := by
        intro hs hlv
        have hs2 : visB S life now c = true ∧ (rankC S life now c : Int) + 1 ≤ v := by
          unfold shownB at hs
          simpa only [Bool.and_eq_true, decide_eq_true_eq] using hs
        unfold rankC
        rw [← hPe, List.filter_filter]
        congr 1
        refine List.filter_congr fun x hx => ?_
        rw [hPe]
        by_cases ho : x.order c < 0
        · by_cases hco : colB x c = true
          · rw [decide_eq_true ho, hco, Bool.true_and, Bool.true_and, Bool.and_true, Bool.and_true]
            have hvx : visB P life later x = (decide (x.kind = 1) && livesB life later x) := vis_puts hP
            rw [hvx, Bool.eq_iff_iff]
            constructor
            · intro h1
              rw [Bool.and_eq_true] at h1
              have := h1.2
              unfold shownB at this
              rw [Bool.and_eq_true] at this
              exact this.1
            · intro h1
              have hk1 : x.kind = 1 := by
                unfold visB at h1
                simp only [Bool.and_eq_true, decide_eq_true_eq] at h1
                exact h1.1
              have hlt := rank_mono ho hco hx h1
              rw [decide_eq_true hk1, Bool.true_and, lives_newer hlv (ahead_time ho hco), Bool.true_and]
              unfold shownB
              rw [h1, Bool.true_and, decide_eq_true_eq]
              omega
          · have : colB x c = false := by simpa using hco
            rw [this]; simp
        · rw [decide_eq_false ho]; simp
      rw [Bool.eq_iff_iff, Bool.and_eq_true]
      constructor
      · rintro ⟨h1, h2⟩
        unfold shownB at h2
        rw [hvp] at h2
        simp only [Bool.and_eq_true, decide_eq_true_eq] at h2
        have hlv := h2.1.2
        have h3 := h1
        unfold shownB at h3 ⊢
        rw [Bool.and_eq_true] at h3 ⊢
        refine ⟨vis_newer hlv h3.1 (Int.le_refl _), ?_⟩
        rw [rank_later hl h hlv]
        exact h3.2
      · intro h1
        have h2 := h1
        unfold shownB at h2
        rw [Bool.and_eq_true, decide_eq_true_eq] at h2
        have hlv := livesB_of h2.1
        have hr := rank_later (S := S) hl h hlv
        have hs : shownB v S life now c = true := by
          unfold shownB
          rw [vis_earlier hl h h2.1, Bool.true_and, decide_eq_true_eq, ← hr]
          exact h2.2
        refine ⟨hs, ?_⟩
        have hk1 : c.kind = 1 := by
          have := h2.1
          unfold visB at this
          simp only [Bool.and_eq_true, decide_eq_true_eq] at this
          exact this.1
        unfold shownB
        rw [hvp, decide_eq_true hk1, hlv, Bool.true_and, Bool.true_and, decide_eq_true_eq, hrank hs hlv, ← hr]
        exact h2.2
    rw [← hPe, List.filter_filter]
    refine List.filter_congr fun c hc => ?_
    rw [← hkey c hc, hPe, Bool.and_comm]
theorem same_again (v life now : Int) (l : List Cell) : seenL v life now (seenL v life now l) = seenL v life now l := same_later v life now now l (Int.le_refl _)
end Go.Proofs.YtndmlldaebdnmaaDoor
