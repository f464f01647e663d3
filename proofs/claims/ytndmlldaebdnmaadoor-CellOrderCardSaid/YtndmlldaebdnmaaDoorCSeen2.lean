/-
  Plain (cell): what the sieve tells of all cells: those that are to be seen.
-/
import Derived.Test.YtndmlldaebdnmaaDoorCSeen
namespace Go.Proofs.YtndmlldaebdnmaaDoor
open Go.RowKit

theorem snoc_all {pre : List Cell} {c : Cell} {P : Cell → Prop} (h : ∀ d ∈ pre, P d) (hc : P c) : ∀ d ∈ pre ++ [c], P d := fun d hd => by
  rcases List.mem_append.1 hd with h1 | h1
  · exact h d h1
  · simp only [List.mem_cons, List.not_mem_nil, or_false] at h1
    subst h1; exact hc
theorem vis_kind {S : List Cell} {life now : Int} {c : Cell} (h : c.kind ≠ 1) : visB S life now c = false := by
  unfold visB
  rw [decide_eq_false h, Bool.false_and]
theorem n_same {S pre : List Cell} {life now : Int} {c : Cell} (h : visB S life now c = false) : ((pre ++ [c]).filter fun x => visB S life now x && colB x c) = pre.filter fun x => visB S life now x && colB x c := by
  rw [List.filter_append]
  simp [h]
theorem know_fam {S pre : List Cell} {life now : Int} {c : Cell} {t : Sv} (K : Know S life now pre c t) (h : c.kind ≠ 4) : (t.family.kind = 0 ∧ ∀ d ∈ pre ++ [c], d.kind = 4 → groupB d c = false) ∨ (t.family ∈ pre ++ [c] ∧ t.family.kind = 4 ∧ groupB t.family c = true ∧ ∀ d ∈ pre ++ [c], d.kind = 4 → groupB d c = true → d.time ≤ t.family.time) := by
  rcases K.fam with ⟨k1, k2⟩ | ⟨k1, k2, k3, k4⟩
  · exact .inl ⟨k1, snoc_all k2 (fun h4 => absurd h4 h)⟩
  · exact .inr ⟨List.mem_append_left _ k1, k2, k3, snoc_all k4 (fun h4 => absurd h4 h)⟩
theorem know_col {S pre : List Cell} {life now : Int} {c : Cell} {t : Sv} (K : Know S life now pre c t) (h : c.kind ≠ 3) : (t.column.kind = 0 ∧ ∀ d ∈ pre ++ [c], d.kind = 3 → colB d c = false) ∨ (t.column ∈ pre ++ [c] ∧ t.column.kind = 3 ∧ colB t.column c = true ∧ ∀ d ∈ pre ++ [c], d.kind = 3 → colB d c = true → d.time ≤ t.column.time) := by
  rcases K.col with ⟨k1, k2⟩ | ⟨k1, k2, k3, k4⟩
  · exact .inl ⟨k1, snoc_all k2 (fun h4 => absurd h4 h)⟩
  · exact .inr ⟨List.mem_append_left _ k1, k2, k3, snoc_all k4 (fun h4 => absurd h4 h)⟩
theorem know_one {S pre : List Cell} {life now : Int} {c : Cell} {t : Sv} (K : Know S life now pre c t) (h : c.kind ≠ 2) : (t.single.kind = 0 ∧ ∀ d ∈ pre ++ [c], d.kind = 2 → colB d c = false) ∨ (t.single ∈ pre ++ [c] ∧ t.single.kind = 2 ∧ colB t.single c = true ∧ ∀ d ∈ pre ++ [c], d.kind = 2 → colB d c = true → t.single.time ≤ d.time) := by
  rcases K.one with ⟨k1, k2⟩ | ⟨k1, k2, k3, k4⟩
  · exact .inl ⟨k1, snoc_all k2 (fun h4 => absurd h4 h)⟩
  · exact .inr ⟨List.mem_append_left _ k1, k2, k3, snoc_all k4 (fun h4 => absurd h4 h)⟩
theorem fam_time {a b : Cell} (h : a.order b < 0) (hg : groupB a b = true) (ha : a.kind = 4) (hb : b.kind = 4) (qa : a.qual = ⟨#[]⟩) (qb : b.qual = ⟨#[]⟩) : b.time ≤ a.time := by
  rw [group_iff] at hg
  rw [order_lex, hg.1, hg.2, qa, qb, whole_lt, ha, hb] at h
  rcases h with h | ⟨_, h | ⟨_, h | ⟨_, h | ⟨_, h⟩⟩⟩⟩
  · exact absurd h cmpS_lt_irrefl
  · exact absurd h cmpS_lt_irrefl
  · exact absurd rfl h.2
  · exact absurd h cmpS_lt_irrefl
  · omega
theorem know_next {S pre post : List Cell} {life now : Int} {c : Cell} {s : Sv} (hS : S = pre ++ c :: post) (hT : Tame S) (hA : At S life now pre s) : At S life now (pre ++ [c]) (s.next life now c) := by
  have hcS : c ∈ S := by rw [hS]; simp
  have hpre := pre_ahead hS hT.rises
  have hsub : ∀ d ∈ pre, d ∈ S := fun d hd => by rw [hS]; exact List.mem_append_left _ hd
  obtain ⟨K, hlast⟩ := know_turn hpre (hT.row c hcS) hA
  obtain ⟨kd0, kd1⟩ := hT.kind c hcS
  refine .inr ⟨c, by simp, snoc_all (fun d hd => .inr (hpre d hd)) (.inl rfl), ?_⟩
  generalize ht : s.turn c = t at K hlast
  unfold Sv.next
  rw [ht]
  simp only
  by_cases h4 : c.kind = 4
  · rw [if_pos h4]
    have hv := n_same (S := S) (pre := pre) (life := life) (now := now) (vis_kind (S := S) (life := life) (now := now) (show c.kind ≠ 1 by omega))
    by_cases hf : t.family.kind = 0
    · rw [if_pos hf]
      refine ⟨hlast, ⟨.inr ⟨by simp, h4, group_self c, snoc_all (fun d hd hd4 hg => ?_) (fun _ _ => Int.le_refl _)⟩, know_col (t := t) K (by omega), know_one (t := t) K (by omega), by rw [hv]; exact K.n⟩⟩
      rcases K.fam with ⟨_, k2⟩ | ⟨_, k2, _⟩
      · rw [k2 d hd hd4] at hg; cases hg
      · omega
    · rw [if_neg hf]
      refine ⟨hlast, ⟨?_, know_col (t := t) K (by omega), know_one (t := t) K (by omega), by rw [hv]; exact K.n⟩⟩
      rcases K.fam with ⟨k1, _⟩ | ⟨k1, k2, k3, k4⟩
      · exact absurd k1 hf
      · exact .inr ⟨List.mem_append_left _ k1, k2, k3, snoc_all k4 (fun _ _ => fam_time (hpre _ k1) k3 k2 h4 (hT.bare _ (hsub _ k1) k2) (hT.bare c hcS h4))⟩
  · rw [if_neg h4]
    by_cases h3 : c.kind = 3
    · rw [if_pos h3]
      have hv := n_same (S := S) (pre := pre) (life := life) (now := now) (vis_kind (S := S) (life := life) (now := now) (show c.kind ≠ 1 by omega))
      by_cases hf : t.column.kind = 0
      · rw [if_pos hf]
        refine ⟨hlast, ⟨know_fam (t := t) K h4, .inr ⟨by simp, h3, col_self h4, snoc_all (fun d hd hd4 hg => ?_) (fun _ _ => Int.le_refl _)⟩, know_one (t := t) K (by omega), by rw [hv]; exact K.n⟩⟩
        rcases K.col with ⟨_, k2⟩ | ⟨_, k2, _⟩
        · rw [k2 d hd hd4] at hg; cases hg
        · omega
      · rw [if_neg hf]
        refine ⟨hlast, ⟨know_fam (t := t) K h4, ?_, know_one (t := t) K (by omega), by rw [hv]; exact K.n⟩⟩
        rcases K.col with ⟨k1, _⟩ | ⟨k1, k2, k3, k4⟩
        · exact absurd k1 hf
        · exact .inr ⟨List.mem_append_left _ k1, k2, k3, snoc_all k4 (fun _ _ => by have := col_times (hpre _ k1) k3; omega)⟩
    · rw [if_neg h3]
      by_cases h2 : c.kind = 2
      · rw [if_pos h2]
        have hv := n_same (S := S) (pre := pre) (life := life) (now := now) (vis_kind (S := S) (life := life) (now := now) (show c.kind ≠ 1 by omega))
        exact ⟨hlast, ⟨know_fam (t := t) K h4, know_col (t := t) K h3, .inr ⟨by simp, h2, col_self h4, snoc_all (fun d hd _ hg => show c.time ≤ d.time by have := col_times (hpre d hd) hg; omega) (fun _ _ => Int.le_refl _)⟩, by rw [hv]; exact K.n⟩⟩
      · rw [if_neg h2]
        have h1 : c.kind = 1 := by omega
        have hvg := gone_vis hS hT K h1
        cases hg : t.gone life now c with
        | true =>
          rw [hg] at hvg
          rw [if_pos rfl]
          exact ⟨hlast, ⟨know_fam (t := t) K h4, know_col (t := t) K h3, know_one (t := t) K h2, by rw [n_same hvg]; exact K.n⟩⟩
        | false =>
          rw [hg] at hvg
          rw [if_neg (by decide)]
          refine ⟨hlast, ⟨know_fam (t := t) K h4, know_col (t := t) K h3, know_one (t := t) K h2, ?_⟩⟩
          have e : ((pre ++ [c]).filter fun x => visB S life now x && colB x c) = (pre.filter fun x => visB S life now x && colB x c) ++ [c] := by
            rw [List.filter_append]
            simp [hvg, col_self h4]
          show t.n + 1 = _
          rw [e, List.length_append, K.n]
          simp
/-- How many are ahead, counted in S or in what is ahead. -/
theorem rank_pre {S pre post : List Cell} {life now : Int} {c : Cell} (hS : S = pre ++ c :: post) (hr : Rises S) : rankC S life now c = (pre.filter fun x => visB S life now x && colB x c).length := by
  unfold rankC
  have hp : ∀ d ∈ pre, decide (d.order c < 0) = true := fun d hd => decide_eq_true (pre_ahead hS hr d hd)
  have hq : ∀ d ∈ c :: post, decide (d.order c < 0) = false := fun d hd => by
    refine decide_eq_false fun h => ?_
    have hpp : Rises (c :: post) := by rw [hS] at hr; exact (List.pairwise_append.1 hr).2.1
    rcases List.mem_cons.1 hd with rfl | hd
    · have := order_is.refl d; omega
    · have h2 := (List.pairwise_cons.1 hpp).1 d hd
      have := order_is.anti c d
      omega
  have e1 : ∀ l : List Cell, l = pre ++ c :: post → (l.filter fun x => decide (x.order c < 0) && (visB S life now x && colB x c)) = pre.filter fun x => visB S life now x && colB x c := fun l hl => by
    rw [hl, List.filter_append, filter_none (l := c :: post) (fun x hx => by rw [hq x hx, Bool.false_and]), List.append_nil]
    exact List.filter_congr fun x hx => by rw [hp x hx, Bool.true_and]
  rw [e1 S hS]
theorem seen_from {S : List Cell} {v life now : Int} (hT : Tame S) : ∀ (rest pre : List Cell) (s : Sv), S = pre ++ rest → At S life now pre s → seenF v life now s rest = rest.filter (shownB v S life now)
  | [], _, _, _, _ => rfl
  | c :: rest, pre, s, hS, hA => by
    have hcS : c ∈ S := by rw [hS]; simp
    have hpre := pre_ahead hS hT.rises
    obtain ⟨K, _⟩ := know_turn hpre (hT.row c hcS) hA
    have ih := seen_from (v := v) hT rest (pre ++ [c]) (s.next life now c) (by rw [hS]; simp) (know_next hS hT hA)
    have hl : s.lets v life now c = shownB v S life now c := by
      unfold Sv.lets shownB
      by_cases h1 : c.kind = 1
      · rw [gone_vis hS hT K h1, rank_pre hS hT.rises, decide_eq_true h1, Bool.true_and, K.n]
      · rw [vis_kind h1, decide_eq_false h1, Bool.false_and, Bool.false_and]
    rw [seenF, List.filter_cons, ih, hl]
/-- What is seen of cells that rise. -/
theorem seen_eq {S : List Cell} {v life now : Int} (hT : Tame S) : seenF v life now Sv.start S = S.filter (shownB v S life now) := seen_from hT S [] Sv.start rfl (.inl ⟨rfl, rfl⟩)
end Go.Proofs.YtndmlldaebdnmaaDoor
