/-
  Plain (cell): cells sorted without turning round those of one place: what such a sort gives; two sorted rows, made one.
-/
import Derived.Test.YtndmlldaebdnmaaDoorCLess
namespace Go.Proofs.YtndmlldaebdnmaaDoor
open Go.RowKit

/-- Cells that don't fall. -/
def Mounts (l : List Cell) : Prop := l.Pairwise fun a b => a.order b ≤ 0
/-- The cells of c's place, in the order in which they stand. -/
def atP (c : Cell) (l : List Cell) : List Cell := l.filter fun x => decide (x.order c = 0)
theorem atP_app (c : Cell) (a b : List Cell) : atP c (a ++ b) = atP c a ++ atP c b := List.filter_append ..
/-- A and B, made one: sorted, those of one place in A's order and then in B's. -/
structure Merges (A B R : List Cell) : Prop where
  mounts : Mounts R
  places : ∀ c, atP c R = atP c A ++ atP c B
theorem Merges.mem {A B R : List Cell} (h : Merges A B R) {x : Cell} (hx : x ∈ R) : x ∈ A ∨ x ∈ B := by
  have h1 : x ∈ atP x R := by
    unfold atP
    rw [List.mem_filter]
    exact ⟨hx, decide_eq_true (order_is.refl x)⟩
  rw [h.places x, List.mem_append] at h1
  rcases h1 with h1 | h1
  · exact .inl (List.mem_filter.1 h1).1
  · exact .inr (List.mem_filter.1 h1).1
theorem Merges.nil_left {B : List Cell} (h : Mounts B) : Merges [] B B := ⟨h, fun _ => rfl⟩
theorem Merges.nil_right {A : List Cell} (h : Mounts A) : Merges A [] A := ⟨h, fun c => by rw [show atP c [] = [] from rfl, List.append_nil]⟩
theorem order_le_trans {a b c : Cell} (h1 : a.order b ≤ 0) (h2 : b.order c ≤ 0) : a.order c ≤ 0 := order_is.trans a b c h1 h2
theorem order_lt_of_lt_le {a b c : Cell} (h1 : a.order b < 0) (h2 : b.order c ≤ 0) : a.order c < 0 := by
  have h3 := order_is.trans a b c (by omega) h2
  rcases Int.lt_or_eq_of_le h3 with h | h
  · exact h
  · exfalso
    have a1 := order_is.anti a c
    have a2 := order_is.trans b c a h2 (by omega)
    have a3 := order_is.anti a b
    omega
theorem order_lt_of_le_lt {a b c : Cell} (h1 : a.order b ≤ 0) (h2 : b.order c < 0) : a.order c < 0 := by
  have h3 := order_is.trans a b c h1 (by omega)
  rcases Int.lt_or_eq_of_le h3 with h | h
  · exact h
  · exfalso
    have a1 := order_is.anti a c
    have a2 := order_is.trans c a b (by omega) h1
    have a3 := order_is.anti b c
    omega
/-- Two rows, each cut in two, and made one crosswise. -/
theorem Merges.cross {A1 A2 B1 B2 R1 R2 : List Cell} (hA : Mounts (A1 ++ A2)) (hB : Mounts (B1 ++ B2)) (h12 : ∀ x ∈ A2, ∀ y ∈ B1, y.order x < 0) (h21 : ∀ x ∈ A1, ∀ y ∈ B2, x.order y ≤ 0) (h1 : Merges A1 B1 R1) (h2 : Merges A2 B2 R2) : Merges (A1 ++ A2) (B1 ++ B2) (R1 ++ R2) := by
  constructor
  · unfold Mounts at *
    rw [List.pairwise_append] at *
    refine ⟨h1.mounts, h2.mounts, fun x hx y hy => ?_⟩
    rcases h1.mem hx with hx | hx
    · rcases h2.mem hy with hy | hy
      · exact hA.2.2 x hx y hy
      · exact h21 x hx y hy
    · rcases h2.mem hy with hy | hy
      · have := h12 y hy x hx; omega
      · exact hB.2.2 x hx y hy
  · intro c
    rw [atP_app, atP_app, atP_app, h1.places c, h2.places c]
    have hone : atP c A2 = [] ∨ atP c B1 = [] := by
      cases ha : atP c A2 with
      | nil => exact .inl rfl
      | cons x l =>
        cases hb : atP c B1 with
        | nil => exact .inr rfl
        | cons y m =>
          exfalso
          have hx : x ∈ atP c A2 := by rw [ha]; simp
          have hy : y ∈ atP c B1 := by rw [hb]; simp
          unfold atP at hx hy
          rw [List.mem_filter, decide_eq_true_eq] at hx hy
          have h3 := h12 x hx.1 y hy.1
          have a1 := order_is.anti x c
          have a2 := order_is.trans x c y (by omega) (by have := order_is.anti y c; omega)
          have a3 := order_is.anti x y
          omega
    rcases hone with h | h
    · rw [h]; simp
    · rw [h]; simp
theorem mounts_one (x : Cell) : Mounts [x] := List.pairwise_singleton _ _
/-- One cell ahead of a sorted row: it stands behind all that are below it. -/
theorem Merges.left_one {x : Cell} {B1 B2 : List Cell} (hB : Mounts (B1 ++ B2)) (h1 : ∀ y ∈ B1, y.order x < 0) (h2 : ∀ y ∈ B2, ¬ y.order x < 0) : Merges [x] (B1 ++ B2) (B1 ++ (x :: B2)) := by
  have hB1 : Mounts B1 := (List.pairwise_append.1 hB).1
  have hB2 : Mounts B2 := (List.pairwise_append.1 hB).2.1
  have hx : Merges [x] B2 (x :: B2) := ⟨List.pairwise_cons.2 ⟨fun y hy => by have := h2 y hy; have := order_is.anti x y; omega, hB2⟩, fun c => by rw [← atP_app]; rfl⟩
  have := Merges.cross (A1 := []) (A2 := [x]) (B1 := B1) (B2 := B2) (R1 := B1) (R2 := x :: B2) (mounts_one x) hB (fun z hz y hy => by
    simp only [List.mem_cons, List.not_mem_nil, or_false] at hz
    subst hz; exact h1 y hy) (fun z hz => by cases hz) (Merges.nil_left hB1) hx
  simpa using this
/-- One cell behind a sorted row: it stands ahead of all that are above it. -/
theorem Merges.right_one {y : Cell} {A1 A2 : List Cell} (hA : Mounts (A1 ++ A2)) (h1 : ∀ x ∈ A1, ¬ y.order x < 0) (h2 : ∀ x ∈ A2, y.order x < 0) : Merges (A1 ++ A2) [y] (A1 ++ (y :: A2)) := by
  have hA1 : Mounts A1 := (List.pairwise_append.1 hA).1
  have hA2 : Mounts A2 := (List.pairwise_append.1 hA).2.1
  have hy : Merges A1 [y] (A1 ++ [y]) := ⟨List.pairwise_append.2 ⟨hA1, mounts_one y, fun x hx z hz => by
    simp only [List.mem_cons, List.not_mem_nil, or_false] at hz
    subst hz
    have := h1 x hx
    have := order_is.anti z x
    omega⟩, fun c => atP_app c A1 [y]⟩
  have := Merges.cross (A1 := A1) (A2 := A2) (B1 := [y]) (B2 := []) (R1 := A1 ++ [y]) (R2 := A2) hA (by rw [List.append_nil]; exact mounts_one y) (fun x hx z hz => by
    simp only [List.mem_cons, List.not_mem_nil, or_false] at hz
    subst hz; exact h2 x hx) (fun x _ z hz => by cases hz) hy (Merges.nil_right hA2)
  simpa using this
/-- A row, sorted so that those of one place keep their order. -/
structure Sorts (l R : List Cell) : Prop where
  mounts : Mounts R
  places : ∀ c, atP c R = atP c l
theorem Sorts.merge {l1 l2 R1 R2 R : List Cell} (h1 : Sorts l1 R1) (h2 : Sorts l2 R2) (h : Merges R1 R2 R) : Sorts (l1 ++ l2) R := ⟨h.mounts, fun c => by rw [h.places c, h1.places c, h2.places c, atP_app]⟩
theorem Sorts.mem {l R : List Cell} (h : Sorts l R) {x : Cell} : x ∈ R ↔ x ∈ l := by
  have e : ∀ m : List Cell, x ∈ m ↔ x ∈ atP x m := fun m => by
    unfold atP
    rw [List.mem_filter]
    exact ⟨fun hx => ⟨hx, decide_eq_true (order_is.refl x)⟩, fun hx => hx.1⟩
  rw [e R, h.places x, ← e l]
/-- The program's making once: the last one of each place stays. -/
def onceStep (out : List Cell) (c : Cell) : List Cell := match out.getLast? with
  | some d => if d.order c = 0 then out.dropLast ++ [c] else out ++ [c]
  | none => [c]
def onceL (l : List Cell) : List Cell := l.foldl onceStep []
theorem onceL_snoc (l : List Cell) (c : Cell) : onceL (l ++ [c]) = onceStep (onceL l) c := by simp [onceL, List.foldl_append]
/-- Of sorted cells it is what sorting gives. -/
theorem once_mounts : ∀ l : List Cell, Mounts l → (∀ c ∈ l, c.ok = true) → onceL l = sortL l := snoc_rec (fun _ _ => rfl) fun l c ih hm hk => by
  have hm1 : Mounts l := (List.pairwise_append.1 hm).1
  have hle : ∀ x ∈ l, x.order c ≤ 0 := fun x hx => (List.pairwise_append.1 hm).2.2 x hx c (by simp)
  rw [onceL_snoc, ih hm1 (fun x hx => hk x (List.mem_append_left _ hx)), sortL_snoc, if_pos (hk c (by simp))]
  have hR := sortL_rises l
  have hle2 : ∀ x ∈ sortL l, x.order c ≤ 0 := fun x hx => hle x (sortL_sub hx)
  generalize sortL l = X at hR hle2
  have hup : X.filter (fun x => decide (c.order x < 0)) = [] := filter_none fun x hx => decide_eq_false (by have := hle2 x hx; have := order_is.anti x c; omega)
  unfold putIn onceStep
  rw [hup]
  rcases List.eq_nil_or_concat X with rfl | ⟨Y, d, hX⟩
  · rfl
  · rw [List.concat_eq_append] at hX
    subst hX
    rw [List.getLast?_append]
    simp only [List.getLast?_singleton, Option.some_or, List.dropLast_concat]
    have hY : ∀ x ∈ Y, x.order d < 0 := fun x hx => (List.pairwise_append.1 hR).2.2 x hx d (by simp)
    by_cases h0 : d.order c = 0
    · rw [if_pos h0, List.filter_append, List.filter_eq_self.2 (fun x hx => decide_eq_true (order_lt_of_lt_le (hY x hx) (by omega)))]
      simp [h0]
    · rw [if_neg h0]
      have hd : d.order c < 0 := by have := hle2 d (by simp); omega
      rw [List.filter_eq_self.2 (fun x hx => ?_)]
      rcases List.mem_append.1 hx with h | h
      · exact decide_eq_true (order_lt_of_lt_le (hY x h) (by omega))
      · simp only [List.mem_cons, List.not_mem_nil, or_false] at h
        subst h; exact decide_eq_true hd
/-- The last of a place, told by the cells of the place. -/
theorem last_at {l : List Cell} (hk : ∀ c ∈ l, c.ok = true) {x : Cell} : LastIn l x ↔ (atP x l).getLast? = some x := by
  constructor
  · rintro ⟨a, b, rfl, _, h3⟩
    have hb : atP x b = [] := filter_none fun y hy => decide_eq_false (h3 y hy (hk y (by simp [hy])))
    have hx : atP x (x :: b) = [x] := by
      show (x :: b).filter _ = [x]
      rw [List.filter_cons, decide_eq_true (order_is.refl x)]
      simp only [if_true]
      have : b.filter (fun y => decide (y.order x = 0)) = [] := hb
      rw [this]
    rw [atP_app, hx, List.getLast?_append]
    simp
  · intro h
    have hmem : x ∈ atP x l := List.mem_of_getLast? h
    unfold atP at hmem
    have hxl := (List.mem_filter.1 hmem).1
    -- cut l behind its last cell of the place
    revert h hxl hk
    refine snoc_rec (P := fun l => (∀ c ∈ l, c.ok = true) → (atP x l).getLast? = some x → x ∈ l → LastIn l x) ?_ ?_ l
    · intro _ _ h; cases h
    · intro l c ih hk h _
      rw [atP_app] at h
      by_cases h0 : c.order x = 0
      · have : atP x [c] = [c] := by unfold atP; simp [h0]
        rw [this, List.getLast?_append] at h
        have hc : c = x := by simpa using h
        subst hc
        exact ⟨l, [], rfl, hk c (by simp), fun y hy => by cases hy⟩
      · have : atP x [c] = [] := by unfold atP; simp [h0]
        rw [this, List.append_nil] at h
        have hm2 : x ∈ atP x l := List.mem_of_getLast? h
        unfold atP at hm2
        exact last_snoc.2 (.inr ⟨ih (fun y hy => hk y (List.mem_append_left _ hy)) h (List.mem_filter.1 hm2).1, fun _ => h0⟩)
theorem sortL_right : ∀ l : List Cell, sortL l = sortL (l.filter (fun c => c.ok)) := snoc_rec rfl fun l c ih => by
  rw [sortL_snoc, List.filter_append]
  by_cases hc : c.ok = true
  · have : [c].filter (fun c => c.ok) = [c] := by simp [hc]
    rw [this, sortL_snoc, if_pos hc, if_pos hc, ih]
  · have : [c].filter (fun c => c.ok) = [] := by simp [hc]
    rw [this, if_neg hc, List.append_nil, ih]
/-- Sort's plain part: right cells, sorted, made once. -/
theorem once_sorts {l R : List Cell} (h : Sorts (l.filter (fun c => c.ok)) R) : onceL R = sortL l := by
  have hk : ∀ c ∈ R, c.ok = true := fun c hc => (List.mem_filter.1 (h.mem.1 hc)).2
  have hkf : ∀ c ∈ l.filter (fun c => c.ok), c.ok = true := fun c hc => (List.mem_filter.1 hc).2
  rw [once_mounts R h.mounts hk]
  refine rises_ext (sortL_rises _) (sortL_rises _) fun x => ?_
  have e := sortL_right l
  rw [e, mem_sortL, mem_sortL, last_at hk, last_at hkf, h.places x]
end Go.Proofs.YtndmlldaebdnmaaDoor
