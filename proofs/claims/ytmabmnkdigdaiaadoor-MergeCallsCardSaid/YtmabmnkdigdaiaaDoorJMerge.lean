/-
  Plain laws: what is left of runs, and the runs of a heap's row.
-/
import Derived.Test.YtmabmnkdigdaiaaDoorJPass
namespace Go.Proofs.YtmabmnkdigdaiaaDoor
open Go.RowKit

/-- The row's runs are what is left, each with its place. -/
structure Rep (rs : List Run) (L : List (List Cell)) : Prop where
  nodup : (rs.map Run.turn).Nodup
  mem : ∀ r ∈ rs, ∃ i : Nat, r.turn = i ∧ L[i]? = some r.xs
  all : ∀ (i : Nat) xs, L[i]? = some xs → xs ≠ [] → ∃ r ∈ rs, r.turn = i ∧ r.xs = xs

theorem Rep.perm {rs rs' : List Run} {L : List (List Cell)} (h : Rep rs L) (hp : rs'.Perm rs) : Rep rs' L :=
  ⟨(hp.map _).nodup_iff.2 h.nodup, fun r hr => h.mem r (hp.mem_iff.1 hr), fun i xs h1 h2 => by
    obtain ⟨r, hr, h3⟩ := h.all i xs h1 h2
    exact ⟨r, hp.mem_iff.2 hr, h3⟩⟩
theorem Rep.other {x : Run} {rest : List Run} {L : List (List Cell)} (h : Rep (x :: rest) L) {t : Nat} (ht : x.turn = t) : ∀ r ∈ rest, r.turn ≠ (t : Int) := fun r hr e => by
  have := h.nodup
  rw [List.map_cons, List.nodup_cons] at this
  exact this.1 (List.mem_map.2 ⟨r, hr, e.trans ht.symm⟩)
theorem Rep.drop {x : Run} {rest : List Run} {L : List (List Cell)} (h : Rep (x :: rest) L) {t : Nat} (ht : x.turn = t) : Rep rest (L.set t []) := by
  have ho := h.other ht
  refine ⟨(List.nodup_cons.1 (by simpa using h.nodup)).2, fun r hr => ?_, fun i xs h1 h2 => ?_⟩
  · obtain ⟨i, h1, h2⟩ := h.mem r (by simp [hr])
    refine ⟨i, h1, ?_⟩
    rw [List.getElem?_set, if_neg (fun e => ho r hr (by rw [h1, e])), h2]
  · rw [List.getElem?_set] at h1
    split at h1
    · split at h1
      · injection h1 with h1; exact absurd h1.symm h2
      · cases h1
    · rename_i hne
      obtain ⟨r, hr, h3, h4⟩ := h.all i xs h1 h2
      rcases List.mem_cons.1 hr with rfl | hr
      · exact absurd (by rw [ht] at h3; omega) hne
      · exact ⟨r, hr, h3, h4⟩
theorem Rep.tail {x x' : Run} {rest : List Run} {L : List (List Cell)} (h : Rep (x :: rest) L) {t : Nat} (ht : x.turn = t) (hx : x'.turn = x.turn) : Rep (x' :: rest) (L.set t x'.xs) := by
  have ho := h.other ht
  have hlt : t < L.length := by
    obtain ⟨i, h1, h2⟩ := h.mem x (by simp)
    have : i = t := by rw [ht] at h1; omega
    subst this
    exact (List.getElem?_eq_some_iff.1 h2).1
  refine ⟨by have := h.nodup; simp only [List.map_cons] at this ⊢; rwa [hx], fun r hr => ?_, fun i xs h1 h2 => ?_⟩
  · rcases List.mem_cons.1 hr with rfl | hr
    · exact ⟨t, hx.trans ht, by simp [hlt]⟩
    · obtain ⟨i, h1, h2⟩ := h.mem r (by simp [hr])
      refine ⟨i, h1, ?_⟩
      rw [List.getElem?_set, if_neg (fun e => ho r hr (by rw [h1, e])), h2]
  · rw [List.getElem?_set] at h1
    split at h1
    · rename_i e
      subst e
      injection h1 with h1
      exact ⟨x', by simp, hx.trans ht, h1⟩
    · rename_i hne
      obtain ⟨r, hr, h3, h4⟩ := h.all i xs h1 h2
      rcases List.mem_cons.1 hr with rfl | hr
      · exact absurd (by rw [ht] at h3; omega) hne
      · exact ⟨r, by simp [hr], h3, h4⟩

/-- The first run with the least first cell, and that cell. -/
def IsBest (L : List (List Cell)) (t : Nat) (c : Cell) : Prop := (∃ xs, L[t]? = some (c :: xs)) ∧ ∀ (i : Nat) d ys, L[i]? = some (d :: ys) → c.order d < 0 ∨ (c.order d = 0 ∧ t ≤ i)
theorem IsBest.unique {L : List (List Cell)} {t t' : Nat} {c c' : Cell} (h : IsBest L t c) (h' : IsBest L t' c') : t = t' ∧ c = c' := by
  obtain ⟨⟨xs, h1⟩, h2⟩ := h
  obtain ⟨⟨xs', h1'⟩, h2'⟩ := h'
  have a := h2 t' c' xs' h1'
  have b := h2' t c xs h1
  have := order_is.anti c c'
  have e : t = t' := by omega
  subst e
  rw [h1] at h1'
  injection h1' with h1'
  injection h1' with h1' _
  exact ⟨rfl, h1'⟩
theorem Run.hd_eq {r : Run} {c : Cell} {xs : List Cell} (h : r.xs = c :: xs) : r.hd = c := by unfold Run.hd; rw [h]; rfl
theorem Rep.best {x : Run} {rest : List Run} {L : List (List Cell)} {n : Nat} (h : Rep (x :: rest) L) (hn : n = (x :: rest).length) (hd : HeapFrom Run.less 0 n (x :: rest)) (hne : x.xs ≠ []) : ∃ t : Nat, x.turn = t ∧ IsBest L t x.hd ∧ L[t]? = some (x.hd :: x.xs.tail) := by
  obtain ⟨t, ht, hL⟩ := h.mem x (by simp)
  obtain ⟨c, xs, hx⟩ : ∃ c xs, x.xs = c :: xs := by
    cases e : x.xs with
    | nil => exact absurd e hne
    | cons c xs => exact ⟨c, xs, rfl⟩
  have hc := Run.hd_eq hx
  refine ⟨t, ht, ⟨⟨xs, by rw [hL, hx, hc]⟩, fun i d ys hi => ?_⟩, by rw [hL, hx, hc]; rfl⟩
  obtain ⟨r, hr, h3, h4⟩ := h.all i _ hi (by simp)
  obtain ⟨k, hk⟩ := List.getElem?_of_mem hr
  subst hn
  have hle := hd.top runless_ok rfl k r hk
  have hd' := Run.hd_eq h4
  unfold Run.less at hle
  have hle := of_decide_eq_false hle
  rw [h3, ht, hd'] at hle
  have e : orI [d.order x.hd, cmpI (i : Int) (t : Int)] = if d.order x.hd = 0 then (if cmpI (i : Int) t = 0 then 0 else cmpI (i : Int) t) else d.order x.hd := rfl
  rw [e] at hle
  have h5 := order_is.anti x.hd d
  have h6 := @cmpI_neg (i : Int) (t : Int)
  by_cases h0 : d.order x.hd = 0
  · rw [if_pos h0] at hle
    right
    refine ⟨by omega, ?_⟩
    by_cases h7 : cmpI (i : Int) t = 0
    · have := cmpI_zero.1 h7; omega
    · rw [if_neg h7] at hle
      have : ¬ (i : Int) < t := fun h8 => hle (h6.2 h8)
      omega
  · rw [if_neg h0] at hle
    left; omega

theorem set_dropWhile {L : List (List Cell)} {t : Nat} {c : Cell} {xs : List Cell} (p : Cell → Bool) (h : L[t]? = some (c :: xs)) (hp : p c = true) : (L.set t xs).map (List.dropWhile p) = L.map (List.dropWhile p) := by
  apply List.ext_getElem?
  intro i
  rw [List.getElem?_map, List.getElem?_map, List.getElem?_set]
  split
  · rename_i e
    subst e
    rw [if_pos (List.getElem?_eq_some_iff.1 h).1, h]
    simp [hp]
  · rfl
theorem none_dropWhile {L : List (List Cell)} (p : Cell → Bool) (h : ∀ (i : Nat) d ys, L[i]? = some (d :: ys) → p d = false) : L.map (List.dropWhile p) = L := by
  apply List.ext_getElem?
  intro i
  rw [List.getElem?_map]
  cases e : L[i]? with
  | none => rfl
  | some xs =>
    cases xs with
    | nil => rfl
    | cons d ys => simp [h i d ys e]

/-- Each run rises. -/
def Rises (l : List Cell) : Prop := l.Pairwise fun a b => a.order b < 0
def nextD (c : Cell) (L : List (List Cell)) : List (List Cell) := L.map (List.dropWhile fun y => decide (y.order c = 0))
def skipD (c : Cell) (L : List (List Cell)) : List (List Cell) := L.map (List.dropWhile fun y => decide (y.order c < 0))
theorem Rises.dropWhile {l : List Cell} (h : Rises l) (p : Cell → Bool) : Rises (l.dropWhile p) := h.sublist (List.dropWhile_sublist p)
theorem rises_map {L : List (List Cell)} (h : ∀ l ∈ L, Rises l) (p : Cell → Bool) : ∀ l ∈ L.map (List.dropWhile p), Rises l := fun l hl => by
  obtain ⟨k, hk, rfl⟩ := List.mem_map.1 hl
  exact (h k hk).dropWhile p
/-- All cells are at the best one, or behind it. -/
theorem IsBest.least {L : List (List Cell)} {t : Nat} {c : Cell} (h : IsBest L t c) (hs : ∀ l ∈ L, Rises l) : ∀ l ∈ L, ∀ y ∈ l, c.order y ≤ 0 := fun l hl y hy => by
  cases l with
  | nil => cases hy
  | cons d ys =>
    obtain ⟨i, hi⟩ := List.getElem?_of_mem hl
    have h1 := h.2 i d ys hi
    rcases List.mem_cons.1 hy with rfl | hy
    · omega
    · have h2 := (List.pairwise_cons.1 (hs _ hl)).1 y hy
      exact order_is.trans c d y (by omega) (by omega)
/-- In a run that rises one cell at most is at a place. -/
theorem nextD_tail {L : List (List Cell)} (hs : ∀ l ∈ L, Rises l) (c : Cell) : nextD c L = L.map fun l => match l with
    | [] => []
    | d :: ys => if d.order c = 0 then ys else d :: ys := by
  unfold nextD
  apply List.map_congr_left
  intro l hl
  cases l with
  | nil => rfl
  | cons d ys =>
    rw [List.dropWhile_cons]
    by_cases h0 : d.order c = 0
    · rw [if_pos (decide_eq_true h0)]
      simp only [h0, if_true]
      cases ys with
      | nil => rfl
      | cons e zs =>
        have h1 := (List.pairwise_cons.1 (hs _ hl)).1 e (by simp)
        have h2 : e.order c ≠ 0 := fun h2 => by
          have := order_is.lt_le h1 (b := e) (c := c) (by omega)
          omega
        rw [List.dropWhile_cons, if_neg (by simpa using h2)]
    · rw [if_neg (by simpa using h0)]
      simp only [h0, if_false]
end Go.Proofs.YtmabmnkdigdaiaaDoor
