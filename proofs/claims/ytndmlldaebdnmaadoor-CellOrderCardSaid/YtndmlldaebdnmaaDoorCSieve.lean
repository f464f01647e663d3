/-
  Plain (cell): what the sieve lets through of cells that rise.
-/
import Derived.Test.YtndmlldaebdnmaaDoorCOrd
namespace Go.Proofs.YtndmlldaebdnmaaDoor
open Go.RowKit

/-- a is ahead of b, part by part. -/
theorem order_lex {a b : Cell} : a.order b < 0 ↔ cmpS a.row b.row < 0 ∨ (a.row = b.row ∧ (cmpS a.fam b.fam < 0 ∨ (a.fam = b.fam ∧ (wholeI a < wholeI b ∨ (wholeI a = wholeI b ∧ (cmpS a.qual b.qual < 0 ∨ (a.qual = b.qual ∧ (b.time < a.time ∨ (a.time = b.time ∧ b.kind < a.kind))))))))) := by
  have e1 : ∀ x l, orI (x :: l) < 0 ↔ x < 0 ∨ (x = 0 ∧ orI l < 0) := fun x l => by
    show (if x = 0 then orI l else x) < 0 ↔ _
    by_cases h : x = 0
    · rw [if_pos h]; omega
    · rw [if_neg h]; omega
  have e0 : ¬ orI [] < 0 := by show ¬ (0 : Int) < 0; omega
  unfold Cell.order
  rw [e1, e1, e1, e1, e1, e1]
  simp only [cmpS_zero, cmpI_zero, cmpI_neg, e0, and_false, or_false]
  constructor
  · rintro (h | ⟨r, h | ⟨f, h | ⟨x, h | ⟨q, h | ⟨t, h⟩⟩⟩⟩⟩)
    · exact .inl h
    · exact .inr ⟨r, .inl h⟩
    · exact .inr ⟨r, .inr ⟨f, .inl h⟩⟩
    · exact .inr ⟨r, .inr ⟨f, .inr ⟨x, .inl h⟩⟩⟩
    · exact .inr ⟨r, .inr ⟨f, .inr ⟨x, .inr ⟨q, .inl h⟩⟩⟩⟩
    · exact .inr ⟨r, .inr ⟨f, .inr ⟨x, .inr ⟨q, .inr ⟨t.symm, h⟩⟩⟩⟩⟩
  · rintro (h | ⟨r, h | ⟨f, h | ⟨x, h | ⟨q, h | ⟨t, h⟩⟩⟩⟩⟩)
    · exact .inl h
    · exact .inr ⟨r, .inl h⟩
    · exact .inr ⟨r, .inr ⟨f, .inl h⟩⟩
    · exact .inr ⟨r, .inr ⟨f, .inr ⟨x, .inl h⟩⟩⟩
    · exact .inr ⟨r, .inr ⟨f, .inr ⟨x, .inr ⟨q, .inl h⟩⟩⟩⟩
    · exact .inr ⟨r, .inr ⟨f, .inr ⟨x, .inr ⟨q, .inr ⟨t.symm, h⟩⟩⟩⟩⟩

/-- The same family of the same row. -/
def groupB (a b : Cell) : Bool := decide (a.row = b.row) && decide (a.fam = b.fam)
/-- The same column (of cells that aren't CFamily). -/
def colB (a b : Cell) : Bool := groupB a b && (decide (a.qual = b.qual) && (decide (a.kind ≠ 4) && decide (b.kind ≠ 4)))
theorem group_iff {a b : Cell} : groupB a b = true ↔ a.row = b.row ∧ a.fam = b.fam := by simp [groupB]
theorem col_iff {a b : Cell} : colB a b = true ↔ (a.row = b.row ∧ a.fam = b.fam) ∧ a.qual = b.qual ∧ a.kind ≠ 4 ∧ b.kind ≠ 4 := by simp [colB, group_iff]
theorem whole_lt {a b : Cell} : wholeI a < wholeI b ↔ a.kind = 4 ∧ b.kind ≠ 4 := by
  unfold wholeI
  split <;> split <;> simp_all
theorem whole_eq {a b : Cell} : wholeI a = wholeI b ↔ (a.kind = 4 ↔ b.kind = 4) := by
  unfold wholeI
  split <;> split <;> simp_all
theorem cmpS_lt_irrefl {s : ByteArray} : ¬ cmpS s s < 0 := by have := cmpS_is.refl s; omega

/-- Of three cells in order the middle one is in the family of the outer ones, if they are in one. -/
theorem group_mid {a b c : Cell} (h1 : a.order b < 0) (h2 : b.order c < 0) (h : groupB a c = true) : groupB b c = true := by
  rw [group_iff] at h ⊢
  rw [order_lex] at h1 h2
  have anti := cmpS_is.anti
  rcases h1 with h1 | ⟨e1, h1⟩
  · rcases h2 with h2 | ⟨e2, _⟩
    · have := anti a.row b.row; rw [h.1] at h1 this; omega
    · rw [h.1, e2] at h1; exact absurd h1 cmpS_lt_irrefl
  · have e2 : b.row = c.row := by rw [← e1]; exact h.1
    refine ⟨e2, ?_⟩
    rcases h2 with h2 | ⟨_, h2⟩
    · rw [e2] at h2; exact absurd h2 cmpS_lt_irrefl
    · rcases h1 with h1 | ⟨e3, _⟩
      · rcases h2 with h2 | ⟨e4, _⟩
        · have := anti a.fam b.fam; rw [h.2] at h1 this; omega
        · exact e4
      · rw [← e3]; exact h.2
/-- .. and in their column. -/
theorem col_mid {a b c : Cell} (h1 : a.order b < 0) (h2 : b.order c < 0) (h : colB a c = true) : colB b c = true := by
  rw [col_iff] at h
  have hg := group_mid h1 h2 (group_iff.2 h.1)
  rw [group_iff] at hg
  obtain ⟨⟨r1, f1⟩, q1, ka, kc⟩ := h
  rw [col_iff]
  rw [order_lex] at h1 h2
  have er : a.row = b.row := r1.trans hg.1.symm
  have ef : a.fam = b.fam := f1.trans hg.2.symm
  rw [er, ef, whole_lt, whole_eq] at h1
  rw [hg.1, hg.2, whole_lt, whole_eq] at h2
  have anti := cmpS_is.anti
  rcases h1 with h1 | ⟨_, h1 | ⟨_, h1 | ⟨w1, h1⟩⟩⟩
  · exact absurd h1 cmpS_lt_irrefl
  · exact absurd h1 cmpS_lt_irrefl
  · exact absurd h1.1 ka
  rcases h2 with h2 | ⟨_, h2 | ⟨_, h2 | ⟨w2, h2⟩⟩⟩
  · exact absurd h2 cmpS_lt_irrefl
  · exact absurd h2 cmpS_lt_irrefl
  · exact absurd (w1.2 h2.1) ka
  have kb : b.kind ≠ 4 := fun h => ka (w1.2 h)
  refine ⟨hg, ?_, kb, kc⟩
  rcases h1 with h1 | ⟨e1, _⟩
  · rcases h2 with h2 | ⟨e2, _⟩
    · have := anti a.qual b.qual; rw [q1] at h1 this; omega
    · exact e2
  · rw [← e1]; exact q1
/-- In a column times fall; at one time kinds do. -/
theorem col_times {a b : Cell} (h : a.order b < 0) (hc : colB a b = true) : b.time < a.time ∨ (a.time = b.time ∧ b.kind < a.kind) := by
  rw [col_iff] at hc
  obtain ⟨⟨r, f⟩, q, ka, kb⟩ := hc
  rw [order_lex, r, f, q, whole_lt] at h
  rcases h with h | ⟨_, h | ⟨_, h | ⟨_, h | ⟨_, h⟩⟩⟩⟩
  · exact absurd h cmpS_lt_irrefl
  · exact absurd h cmpS_lt_irrefl
  · exact absurd h.1 ka
  · exact absurd h cmpS_lt_irrefl
  · exact h
/-- A CFamily is ahead of all else of its family. -/
theorem family_first {a b : Cell} (hg : groupB a b = true) (ha : a.kind = 4) (hb : b.kind ≠ 4) : a.order b < 0 := by
  rw [group_iff] at hg
  rw [order_lex]
  exact .inr ⟨hg.1, .inr ⟨hg.2, .inl (whole_lt.2 ⟨ha, hb⟩)⟩⟩
theorem col_order {a b : Cell} (hc : colB a b = true) (h : b.time < a.time ∨ (a.time = b.time ∧ b.kind < a.kind)) : a.order b < 0 := by
  rw [col_iff] at hc
  obtain ⟨⟨r, f⟩, q, ka, kb⟩ := hc
  rw [order_lex]
  exact .inr ⟨r, .inr ⟨f, .inr ⟨whole_eq.2 ⟨fun h => absurd h ka, fun h => absurd h kb⟩, .inr ⟨q, h⟩⟩⟩⟩

/-- The sieve. -/
structure Sv where
  family : Cell
  column : Cell
  single : Cell
  last : Cell
  n : Int
def nilC : Cell := ⟨⟨#[]⟩, ⟨#[]⟩, ⟨#[]⟩, 0, 0, 0, 0, ⟨#[]⟩⟩
def Sv.start : Sv := ⟨nilC, nilC, nilC, nilC, 0⟩
def Sv.turn (s : Sv) (c : Cell) : Sv :=
  if groupB c s.last = false then ⟨nilC, nilC, nilC, c, 0⟩
  else if c.qual ≠ s.last.qual ∨ s.last.kind = 4 then ⟨s.family, nilC, nilC, c, 0⟩
  else ⟨s.family, s.column, s.single, c, s.n⟩
def coversB (d : Cell) (t : Int) : Bool := decide (d.kind ≠ 0) && decide (t ≤ d.time)
def livesB (life now : Int) (c : Cell) : Bool := decide (life = 0) || decide (now - c.time < life)
/-- Is a put covered, or its life over? -/
def Sv.gone (s : Sv) (life now : Int) (c : Cell) : Bool := coversB s.family c.time || (coversB s.column c.time || ((decide (s.single.kind ≠ 0) && decide (s.single.time = c.time)) || !livesB life now c))
def Sv.next (life now : Int) (s : Sv) (c : Cell) : Sv :=
  let s := s.turn c
  if c.kind = 4 then (if s.family.kind = 0 then { s with family := c } else s)
  else if c.kind = 3 then (if s.column.kind = 0 then { s with column := c } else s)
  else if c.kind = 2 then { s with single := c }
  else if s.gone life now c = true then s else { s with n := s.n + 1 }
def Sv.lets (v life now : Int) (s : Sv) (c : Cell) : Bool :=
  decide (c.kind = 1) && (!(s.turn c).gone life now c && decide ((s.turn c).n + 1 ≤ v))
def seenF (v life now : Int) : Sv → List Cell → List Cell
  | _, [] => []
  | s, c :: l => if s.lets v life now c = true then c :: seenF v life now (s.next life now c) l else seenF v life now (s.next life now c) l
end Go.Proofs.YtndmlldaebdnmaaDoor
