/-
  Plain law: of runs that rise, the cells that are the first of their place are as many as what they come to, made one.
-/
import Derived.Test.YtmabmnkdigdaiaaDoorJLaws
namespace Go.Proofs.YtmabmnkdigdaiaaDoor
open Go.RowKit

/-- Is there no cell of its place in the first lists? -/
def freeB (M : List (List Cell)) (c : Cell) : Bool := M.all fun m => m.all fun y => !decide (y.order c = 0)
def firstsC (L : List (List Cell)) (i : Nat) : List Cell := (L.getD i []).filter (freeB (L.take i))
def usedC (L : List (List Cell)) : Nat → Nat
  | 0 => 0
  | i + 1 => usedC L i + (firstsC L i).length

theorem freeB_iff {L : List (List Cell)} {i : Nat} {c : Cell} : freeB (L.take i) c = true ↔ ∀ (j : Nat) m, j < i → L[j]? = some m → ∀ y ∈ m, y.order c ≠ 0 := by
  unfold freeB
  rw [List.all_eq_true]
  constructor
  · intro h j m hj hm y hy
    have h1 := h m (List.mem_of_getElem? (i := j) (by rw [List.getElem?_take, if_pos hj]; exact hm))
    have h2 := List.all_eq_true.1 h1 y hy
    simpa using h2
  · intro h m hm
    obtain ⟨j, hj⟩ := List.getElem?_of_mem hm
    rw [List.getElem?_take] at hj
    split at hj
    · rw [List.all_eq_true]
      intro y hy
      simpa using h j m (by assumption) hj y hy
    · cases hj
/-- All first cells, list by list. -/
def allFirsts (L : List (List Cell)) (n : Nat) : List Cell := ((List.range n).map (firstsC L)).flatten
theorem allFirsts_succ (L : List (List Cell)) (n : Nat) : allFirsts L (n + 1) = allFirsts L n ++ firstsC L n := by simp [allFirsts, List.range_succ]
theorem usedC_len (L : List (List Cell)) : ∀ n, usedC L n = (allFirsts L n).length
  | 0 => rfl
  | n + 1 => by rw [usedC, allFirsts_succ, List.length_append, usedC_len L n]
theorem mem_firsts {L : List (List Cell)} {i : Nat} {x : Cell} : x ∈ firstsC L i ↔ ∃ l, L[i]? = some l ∧ x ∈ l ∧ ∀ (j : Nat) m, j < i → L[j]? = some m → ∀ y ∈ m, y.order x ≠ 0 := by
  unfold firstsC
  rw [List.mem_filter, freeB_iff]
  cases h : L[i]? with
  | none => simp [List.getD, h]
  | some l => simp [List.getD, h]
theorem mem_allFirsts {L : List (List Cell)} {x : Cell} : ∀ n, x ∈ allFirsts L n ↔ ∃ i, i < n ∧ x ∈ firstsC L i := by
  intro n
  unfold allFirsts
  simp only [List.mem_flatten, List.mem_map, List.mem_range]
  constructor
  · rintro ⟨l, ⟨i, hi, rfl⟩, hx⟩; exact ⟨i, hi, hx⟩
  · rintro ⟨i, hi, hx⟩; exact ⟨_, ⟨i, hi, rfl⟩, hx⟩
theorem rises_nodup {l : List Cell} (h : Rises l) : l.Nodup := h.imp fun {a b} hab e => by
  subst e
  have := order_is.refl a
  omega
theorem nodup_allFirsts {L : List (List Cell)} (hs : ∀ l ∈ L, Rises l) : ∀ n, (allFirsts L n).Nodup
  | 0 => by simp [allFirsts]
  | n + 1 => by
    rw [allFirsts_succ, List.nodup_append]
    refine ⟨nodup_allFirsts hs n, ?_, fun a ha b hb e => ?_⟩
    · unfold firstsC
      refine List.Nodup.sublist List.filter_sublist ?_
      cases h : L[n]? with
      | none => simp [List.getD, h]
      | some l => simp only [List.getD, h, Option.getD_some]; exact rises_nodup (hs l (List.mem_of_getElem? h))
    · subst e
      obtain ⟨i, hi, hx⟩ := (mem_allFirsts n).1 ha
      obtain ⟨l, h1, h2, _⟩ := mem_firsts.1 hx
      obtain ⟨_, _, _, h3⟩ := mem_firsts.1 hb
      exact h3 i l hi h1 a h2 (order_is.refl a)
theorem nodup_le {a : List Cell} : ∀ {b : List Cell}, a.Nodup → (∀ x ∈ a, x ∈ b) → a.length ≤ b.length := by
  induction a with
  | nil => intro b _ _; simp
  | cons x a ih =>
    intro b hn h
    have hx := List.nodup_cons.1 hn
    have h1 := ih (b := b.erase x) hx.2 fun y hy => (List.mem_erase_of_ne (fun e => hx.1 (by rw [← e]; exact hy))).2 (h y (by simp [hy]))
    have h2 := h x (by simp)
    rw [List.length_erase_of_mem h2] at h1
    have := List.length_pos_of_mem h2
    simp; omega
/-- As many as what comes. -/
theorem used_all {L : List (List Cell)} {out : List Cell} (hs : ∀ l ∈ L, Rises l) (hm : Merged L out) : usedC L L.length = out.length := by
  obtain ⟨h1, h2⟩ := merged_first hm hs
  have key : ∀ x, x ∈ allFirsts L L.length ↔ x ∈ out := fun x => by
    rw [mem_allFirsts, h2]
    constructor
    · rintro ⟨i, _, hx⟩
      obtain ⟨l, h3⟩ := mem_firsts.1 hx
      exact ⟨i, l, h3⟩
    · rintro ⟨i, l, h3, h4, h5⟩
      exact ⟨i, (List.getElem?_eq_some_iff.1 h3).1, mem_firsts.2 ⟨l, h3, h4, h5⟩⟩
  rw [usedC_len]
  have a := nodup_le (nodup_allFirsts hs L.length) (fun x hx => (key x).1 hx)
  have b := nodup_le (rises_nodup h1) (fun x hx => (key x).2 hx)
  omega
/-- A first cell is told. -/
theorem told_of {L : List (List Cell)} {out : List Cell} (hs : ∀ l ∈ L, Rises l) (hm : Merged L out) {i : Nat} {l : List Cell} {x : Cell} (hl : L[i]? = some l) (hx : x ∈ l) (hf : freeB (L.take i) x = true) : x ∈ out :=
  ((merged_first hm hs).2 x).2 ⟨i, l, hl, hx, freeB_iff.1 hf⟩

/-- Has none of these the cell's place? -/
def noneB (d : Cell) (m : List Cell) : Bool := m.all fun y => !decide (y.order d = 0)
theorem noneB_take {d y : Cell} {m : List Cell} {p : Nat} (h : m[p]? = some y) : noneB d (m.take (p + 1)) = (noneB d (m.take p) && !decide (y.order d = 0)) := by
  unfold noneB
  rw [List.take_add_one, h, List.all_append]
  simp
theorem freeB_take {L : List (List Cell)} {m : List Cell} {d : Cell} {i : Nat} (h : L[i]? = some m) : freeB (L.take (i + 1)) d = (freeB (L.take i) d && noneB d m) := by
  unfold freeB noneB
  rw [List.take_add_one, h, List.all_append]
  simp
theorem freeB_less {L : List (List Cell)} {d : Cell} {i j : Nat} (hij : i ≤ j) (h : freeB (L.take i) d = false) : freeB (L.take j) d = false := by
  cases hj : freeB (L.take j) d with
  | false => rfl
  | true =>
    rw [← h]
    exact (freeB_iff.2 fun q m hq hm => freeB_iff.1 hj q m (by omega) hm).symm
def toldB (d : Cell) (o : List Cell) : Bool := o.any fun y => y.beq d
theorem toldB_take {d y : Cell} {o : List Cell} {p : Nat} (h : o[p]? = some y) : toldB d (o.take (p + 1)) = (toldB d (o.take p) || y.beq d) := by
  unfold toldB
  rw [List.take_add_one, h, List.any_append]
  simp
theorem toldB_mem {d : Cell} {o : List Cell} (h : d ∈ o) : toldB d o = true := List.any_eq_true.2 ⟨d, h, (Cell.beq_iff d d).2 rfl⟩
theorem firstsC_eq {L : List (List Cell)} {j : Nat} {xs : List Cell} (h : L[j]? = some xs) : firstsC L j = xs.filter (freeB (L.take j)) := by
  unfold firstsC
  simp [List.getD, h]
theorem filter_take {xs : List Cell} {q : Nat} {d : Cell} (f : Cell → Bool) (h : xs[q]? = some d) : ((xs.take (q + 1)).filter f).length = ((xs.take q).filter f).length + (if f d = true then 1 else 0) := by
  rw [List.take_add_one, h, List.filter_append, List.length_append]
  simp only [Option.toList_some, List.filter_cons, List.filter_nil]
  split <;> rfl
end Go.Proofs.YtmabmnkdigdaiaaDoor
