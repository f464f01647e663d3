/-
  Plain (cell): the sieve lets through just the puts that are to be seen.
-/
import Derived.Test.YtndmlldaebdnmaaDoorCSieve
namespace Go.Proofs.YtndmlldaebdnmaaDoor
open Go.RowKit

/-- Does d tell that the put c is gone? -/
def hitsB (d c : Cell) : Bool := (decide (d.kind = 4) && (groupB d c && decide (c.time ≤ d.time))) || ((decide (d.kind = 3) && (colB d c && decide (c.time ≤ d.time))) || (decide (d.kind = 2) && (colB d c && decide (d.time = c.time))))
/-- A put that isn't told to be gone, and lives. -/
def visB (S : List Cell) (life now : Int) (c : Cell) : Bool := decide (c.kind = 1) && (!S.any (fun d => hitsB d c) && livesB life now c)
/-- How many such are ahead of it in its column. -/
def rankC (S : List Cell) (life now : Int) (c : Cell) : Nat := (S.filter fun x => decide (x.order c < 0) && (visB S life now x && colB x c)).length
def shownB (v : Int) (S : List Cell) (life now : Int) (c : Cell) : Bool := visB S life now c && decide ((rankC S life now c : Int) + 1 ≤ v)

structure Tame (S : List Cell) : Prop where
  rises : Rises S
  row : ∀ c ∈ S, 1 ≤ c.row.size
  kind : ∀ c ∈ S, 1 ≤ c.kind ∧ c.kind ≤ 4
  bare : ∀ c ∈ S, c.kind = 4 → c.qual = ⟨#[]⟩

/-- What the sieve knows of the column and the family of l, of the cells pre. -/
structure Know (S : List Cell) (life now : Int) (pre : List Cell) (l : Cell) (s : Sv) : Prop where
  fam : (s.family.kind = 0 ∧ ∀ d ∈ pre, d.kind = 4 → groupB d l = false) ∨ (s.family ∈ pre ∧ s.family.kind = 4 ∧ groupB s.family l = true ∧ ∀ d ∈ pre, d.kind = 4 → groupB d l = true → d.time ≤ s.family.time)
  col : (s.column.kind = 0 ∧ ∀ d ∈ pre, d.kind = 3 → colB d l = false) ∨ (s.column ∈ pre ∧ s.column.kind = 3 ∧ colB s.column l = true ∧ ∀ d ∈ pre, d.kind = 3 → colB d l = true → d.time ≤ s.column.time)
  one : (s.single.kind = 0 ∧ ∀ d ∈ pre, d.kind = 2 → colB d l = false) ∨ (s.single ∈ pre ∧ s.single.kind = 2 ∧ colB s.single l = true ∧ ∀ d ∈ pre, d.kind = 2 → colB d l = true → s.single.time ≤ d.time)
  n : s.n = ((pre.filter fun x => visB S life now x && colB x l).length : Nat)

theorem group_symm {a b : Cell} : groupB a b = groupB b a := by
  rw [Bool.eq_iff_iff, group_iff, group_iff]
  exact ⟨fun h => ⟨h.1.symm, h.2.symm⟩, fun h => ⟨h.1.symm, h.2.symm⟩⟩
theorem group_self (a : Cell) : groupB a a = true := group_iff.2 ⟨rfl, rfl⟩
theorem group_trans {a b c : Cell} (h : groupB b c = true) : groupB a b = groupB a c := by
  rw [group_iff] at h
  rw [Bool.eq_iff_iff, group_iff, group_iff, h.1, h.2]
theorem col_trans {a b c : Cell} (h : colB b c = true) : colB a b = colB a c := by
  rw [col_iff] at h
  rw [Bool.eq_iff_iff, col_iff, col_iff, h.1.1, h.1.2, h.2.1]
  exact ⟨fun x => ⟨x.1, x.2.1, x.2.2.1, h.2.2.2⟩, fun x => ⟨x.1, x.2.1, x.2.2.1, h.2.2.1⟩⟩
theorem col_group {a b : Cell} (h : colB a b = true) : groupB a b = true := group_iff.2 (col_iff.1 h).1
theorem col_self {a : Cell} (h : a.kind ≠ 4) : colB a a = true := col_iff.2 ⟨⟨rfl, rfl⟩, rfl, h, h⟩
theorem filter_none {α : Type} {p : α → Bool} {l : List α} (h : ∀ x ∈ l, p x = false) : l.filter p = [] := by
  rw [List.filter_eq_nil_iff]
  intro x hx
  rw [h x hx]; simp

/-- Nothing is known of a family that is new. -/
theorem know_new {S : List Cell} {life now : Int} {pre : List Cell} {c : Cell} (h : ∀ d ∈ pre, groupB d c = false) : Know S life now pre c ⟨nilC, nilC, nilC, c, 0⟩ := by
  have hc : ∀ d ∈ pre, colB d c = false := fun d hd => by
    cases e : colB d c with
    | false => rfl
    | true => exact absurd (col_group e) (by rw [h d hd]; decide)
  exact ⟨.inl ⟨rfl, fun d hd _ => h d hd⟩, .inl ⟨rfl, fun d hd _ => hc d hd⟩, .inl ⟨rfl, fun d hd _ => hc d hd⟩, by
    rw [filter_none (fun x hx => by rw [hc x hx, Bool.and_false])]; rfl⟩
/-- What the sieve knows at a place. -/
def At (S : List Cell) (life now : Int) (pre : List Cell) (s : Sv) : Prop := (pre = [] ∧ s = Sv.start) ∨ ∃ p, p ∈ pre ∧ (∀ d ∈ pre, d = p ∨ d.order p < 0) ∧ s.last = p ∧ Know S life now pre p s
theorem know_turn {S : List Cell} {life now : Int} {pre : List Cell} {c : Cell} {s : Sv} (hp : ∀ d ∈ pre, d.order c < 0) (hrow : 1 ≤ c.row.size) (h : At S life now pre s) : Know S life now pre c (s.turn c) ∧ (s.turn c).last = c := by
  rcases h with ⟨rfl, rfl⟩ | ⟨p, hpp, hpo, hl, K⟩
  · have e : groupB c Sv.start.last = false := by
      cases e : groupB c Sv.start.last with
      | false => rfl
      | true =>
        have := (group_iff.1 e).1
        rw [this] at hrow
        exact absurd hrow (by decide)
    unfold Sv.turn
    rw [if_pos e]
    exact ⟨know_new (fun d hd => by cases hd), rfl⟩
  · have hpc := hp p hpp
    by_cases hg : groupB c s.last = false
    · unfold Sv.turn
      rw [if_pos hg]
      refine ⟨know_new (fun d hd => ?_), rfl⟩
      cases e : groupB d c with
      | false => rfl
      | true =>
        rw [hl, group_symm] at hg
        rcases hpo d hd with rfl | h1
        · rw [e] at hg; cases hg
        · rw [group_mid h1 hpc e] at hg; cases hg
    · have hg1 : groupB p c = true := by
        rw [hl, group_symm] at hg
        simpa using hg
      by_cases hq : c.qual ≠ s.last.qual ∨ s.last.kind = 4
      · have hcol : ∀ d ∈ pre, colB d c = false := fun d hd => by
          cases e : colB d c with
          | false => rfl
          | true =>
            exfalso
            have hcp : colB p c = true := by
              rcases hpo d hd with rfl | h1
              · exact e
              · exact col_mid h1 hpc e
            rw [col_iff] at hcp
            rw [hl] at hq
            rcases hq with hq | hq
            · exact hq hcp.2.1.symm
            · exact hcp.2.2.1 hq
        unfold Sv.turn
        rw [if_neg hg, if_pos hq]
        refine ⟨⟨?_, .inl ⟨rfl, fun d hd _ => hcol d hd⟩, .inl ⟨rfl, fun d hd _ => hcol d hd⟩, by rw [filter_none (fun x hx => by rw [hcol x hx, Bool.and_false])]; rfl⟩, rfl⟩
        rcases K.fam with ⟨k1, k2⟩ | ⟨k1, k2, k3, k4⟩
        · exact .inl ⟨k1, fun d hd h4 => by rw [← group_trans hg1]; exact k2 d hd h4⟩
        · exact .inr ⟨k1, k2, by rw [← group_trans hg1]; exact k3, fun d hd h4 hgd => k4 d hd h4 (by rw [group_trans hg1]; exact hgd)⟩
      · have hq' : c.qual = s.last.qual ∧ s.last.kind ≠ 4 := by
          constructor
          · exact Classical.byContradiction fun h => hq (.inl h)
          · exact fun h => hq (.inr h)
        rw [hl] at hq'
        have hck : c.kind ≠ 4 := fun h4 => by
          have := hpc
          rw [group_iff] at hg1
          rw [order_lex, hg1.1, hg1.2, whole_lt, whole_eq] at this
          rcases this with h | ⟨_, h | ⟨_, h | ⟨h, _⟩⟩⟩
          · exact cmpS_lt_irrefl h
          · exact cmpS_lt_irrefl h
          · exact h.2 h4
          · exact hq'.2 (h.2 h4)
        have hcp : colB p c = true := col_iff.2 ⟨group_iff.1 hg1, hq'.1.symm, hq'.2, hck⟩
        unfold Sv.turn
        rw [if_neg hg, if_neg hq]
        refine ⟨⟨?_, ?_, ?_, ?_⟩, rfl⟩
        · rcases K.fam with ⟨k1, k2⟩ | ⟨k1, k2, k3, k4⟩
          · exact .inl ⟨k1, fun d hd h4 => by rw [← group_trans hg1]; exact k2 d hd h4⟩
          · exact .inr ⟨k1, k2, by rw [← group_trans hg1]; exact k3, fun d hd h4 hgd => k4 d hd h4 (by rw [group_trans hg1]; exact hgd)⟩
        · rcases K.col with ⟨k1, k2⟩ | ⟨k1, k2, k3, k4⟩
          · exact .inl ⟨k1, fun d hd h4 => by rw [← col_trans hcp]; exact k2 d hd h4⟩
          · exact .inr ⟨k1, k2, by rw [← col_trans hcp]; exact k3, fun d hd h4 hgd => k4 d hd h4 (by rw [col_trans hcp]; exact hgd)⟩
        · rcases K.one with ⟨k1, k2⟩ | ⟨k1, k2, k3, k4⟩
          · exact .inl ⟨k1, fun d hd h4 => by rw [← col_trans hcp]; exact k2 d hd h4⟩
          · exact .inr ⟨k1, k2, by rw [← col_trans hcp]; exact k3, fun d hd h4 hgd => k4 d hd h4 (by rw [col_trans hcp]; exact hgd)⟩
        · have e : (pre.filter fun x => visB S life now x && colB x c) = pre.filter fun x => visB S life now x && colB x p := List.filter_congr fun x _ => by rw [col_trans hcp]
          rw [e]
          exact K.n

/-- Where c stands in S: what is ahead of it. -/
theorem ahead_mem {S pre post : List Cell} {c d : Cell} (hS : S = pre ++ c :: post) (hr : Rises S) (hd : d ∈ S) (ho : d.order c < 0) : d ∈ pre := by
  subst hS
  have h1 := (List.pairwise_append.1 hr).2.1
  rcases List.mem_append.1 hd with h | h
  · exact h
  · exfalso
    rcases List.mem_cons.1 h with rfl | h
    · have := order_is.refl d; omega
    · have h2 := (List.pairwise_cons.1 h1).1 d h
      have := order_is.anti c d
      omega
theorem pre_ahead {S pre post : List Cell} {c : Cell} (hS : S = pre ++ c :: post) (hr : Rises S) : ∀ d ∈ pre, d.order c < 0 := by
  subst hS
  exact fun d hd => (List.pairwise_append.1 hr).2.2 d hd c (by simp)
/-- The sieve's word on a put is S's. -/
theorem gone_vis {S pre post : List Cell} {life now : Int} {c : Cell} {t : Sv} (hS : S = pre ++ c :: post) (hT : Tame S) (K : Know S life now pre c t) (hk : c.kind = 1) : visB S life now c = !t.gone life now c := by
  have hsub : ∀ d ∈ pre, d ∈ S := fun d hd => by rw [hS]; exact List.mem_append_left _ hd
  have hpre := pre_ahead hS hT.rises
  have hany : S.any (fun d => hitsB d c) = (coversB t.family c.time || (coversB t.column c.time || (decide (t.single.kind ≠ 0) && decide (t.single.time = c.time)))) := by
    rw [Bool.eq_iff_iff]
    constructor
    · intro h
      obtain ⟨d, hd, hh⟩ := List.any_eq_true.1 h
      unfold hitsB at hh
      simp only [Bool.or_eq_true, Bool.and_eq_true, decide_eq_true_eq] at hh ⊢
      rcases hh with ⟨h4, hg, ht⟩ | ⟨h3, hg, ht⟩ | ⟨h2, hg, ht⟩
      · have hdp := ahead_mem hS hT.rises hd (family_first hg h4 (by omega))
        left
        unfold coversB
        rcases K.fam with ⟨k1, k2⟩ | ⟨k1, k2, k3, k4⟩
        · rw [k2 d hdp h4] at hg; cases hg
        · have := k4 d hdp h4 hg
          simp only [Bool.and_eq_true, decide_eq_true_eq]
          omega
      · have hdp := ahead_mem hS hT.rises hd (col_order hg (by omega))
        right; left
        unfold coversB
        rcases K.col with ⟨k1, k2⟩ | ⟨k1, k2, k3, k4⟩
        · rw [k2 d hdp h3] at hg; cases hg
        · have := k4 d hdp h3 hg
          simp only [Bool.and_eq_true, decide_eq_true_eq]
          omega
      · have hdp := ahead_mem hS hT.rises hd (col_order hg (by omega))
        right; right
        rcases K.one with ⟨k1, k2⟩ | ⟨k1, k2, k3, k4⟩
        · rw [k2 d hdp h2] at hg; cases hg
        · have h5 := k4 d hdp h2 hg
          have h6 := col_times (hpre _ k1) k3
          omega
    · intro h
      unfold coversB at h
      simp only [Bool.or_eq_true, Bool.and_eq_true, decide_eq_true_eq] at h
      rw [List.any_eq_true]
      unfold hitsB
      simp only [Bool.or_eq_true, Bool.and_eq_true, decide_eq_true_eq]
      rcases h with ⟨h1, h2⟩ | ⟨h1, h2⟩ | ⟨h1, h2⟩
      · rcases K.fam with ⟨k1, _⟩ | ⟨k1, k2, k3, _⟩
        · exact absurd k1 h1
        · exact ⟨_, hsub _ k1, .inl ⟨k2, k3, h2⟩⟩
      · rcases K.col with ⟨k1, _⟩ | ⟨k1, k2, k3, _⟩
        · exact absurd k1 h1
        · exact ⟨_, hsub _ k1, .inr (.inl ⟨k2, k3, h2⟩)⟩
      · rcases K.one with ⟨k1, _⟩ | ⟨k1, k2, k3, _⟩
        · exact absurd k1 h1
        · exact ⟨_, hsub _ k1, .inr (.inr ⟨k2, k3, h2⟩)⟩
  unfold visB Sv.gone
  rw [hany, hk, decide_eq_true rfl, Bool.true_and]
  cases coversB t.family c.time <;> cases coversB t.column c.time <;> cases (decide (t.single.kind ≠ 0) && decide (t.single.time = c.time)) <;> cases livesB life now c <;> rfl
end Go.Proofs.YtndmlldaebdnmaaDoor
