/-
  Rows of runs that a law makes: one row more; a literal's block; a part of a row.
-/
import Derived.Test.YtmabmnkdigdaiaaDoorJLawA
import Derived.Test.YtmabmnkdigdaiaaDoorJLaws
namespace Go.RowKit
variable {α : Type}
/-- A block whose cells are a literal's. -/
theorem rd_block {sz : Nat} {enc : α → List Value} {w : World} {b : Nat} {cs : Array Value} {T : TypeId} {f : Nat × Nat} (h : w.heap[b]? = some (.cells cs T f)) (xs : List α) (hx : cs.toList = xs.flatMap enc) (hsz : ∀ x, (enc x).length = sz) :
    Rd sz enc w (some ⟨b, 0, none⟩) xs.length xs :=
  ⟨rfl, fun i c hc => by
    have hb : b < w.heap.size := by
      rcases Nat.lt_or_ge b w.heap.size with hh | hh
      · exact hh
      · rw [Array.getElem?_eq_none hh] at h; cases h
    refine ⟨b, 0, rfl, hb, fun j v hv => ?_⟩
    have := flat_at hsz xs i j c v hc hv
    rw [← hx, Array.getElem?_toList] at this
    simp [World.cell?, h, this]⟩
theorem rd_drop {sz : Nat} {enc : α → List Value} {w : World} {b off n : Nat} {xs : List α} (h : Rd sz enc w (some ⟨b, off, none⟩) n xs) (k : Nat) (_ : k ≤ n) : Rd sz enc w (some ⟨b, off + k * sz, none⟩) (n - k) (xs.drop k) :=
  ⟨by rw [List.length_drop, ← h.len], fun i c hc => by
    rw [List.getElem?_drop] at hc
    obtain ⟨b', off', h1, h2, h3⟩ := h.at_ (k + i) c hc
    injection h1 with h1
    injection h1 with e1 e2 _
    subst e1; subst e2
    refine ⟨b, off + k * sz, rfl, h2, fun j v hv => ?_⟩
    have := h3 j v hv
    rwa [show off + (k + i) * sz + j = off + k * sz + i * sz + j from by rw [Nat.add_mul]; omega] at this⟩
theorem rd_none {sz : Nat} {enc : α → List Value} {w : World} {A : Option Addr} {xs : List α} (h : Rd sz enc w A 0 xs) : xs = [] := List.eq_nil_of_length_eq_zero h.len.symm
end Go.RowKit
namespace Go.Proofs.YtmabmnkdigdaiaaDoor
open Go.RowKit

theorem own_nil {E : TypeId} {sz : Nat} {α : Type} {enc : α → List Value} {w : World} {base n cap : Nat} {A : Option Addr} {xs : List α} (h : Own E sz enc w base A n cap xs) : A = none → cap = 0 := fun hA => by
  obtain ⟨h0, h1, h2 | ⟨g, cap', cur, h3, h4⟩⟩ := h
  · obtain ⟨h2, _⟩ := h2
    injection h2 with _ _ h2
  · subst hA; injection h3 with h3 _ _; cases h3
theorem own_row {w : World} {B n cap : Nat} {A : Option Addr} {l : List Cell} (h : OwnC w B A n cap l) (hl : l.length ≤ 1000000) (hf : ∀ c ∈ l, c.fits) : RowOk w ⟨A, n, cap, l⟩ :=
  ⟨h.rd Cell.l_len, by
    rcases h.shape with ⟨h1, _⟩ | ⟨g, h1, _⟩
    · exact .inl h1
    · exact .inr ⟨g, 0, h1⟩, own_nil h, own_room h, by rw [h.1]; exact hl, hf⟩
theorem RowOk.only {w w' : World} {r : Row} {S : Nat → Prop} (h : RowOk w r) (ho : Only S w w') (hS : ∀ a, r.A = some a → ¬ S a.block) : RowOk w' r := ⟨h.rd.only ho hS, h.at_, h.nil, h.room, h.small, h.fits⟩
/-- A row of runs that the law itself makes. -/
def RunsAt (base : Nat) (A : Option Addr) (n cap : Nat) (rows : List Row) (w : World) : Prop :=
  OwnW w base A n cap rows ∧ ∀ r ∈ rows, RowOk w r ∧ ∀ a, r.A = some a → base ≤ a.block ∧ a.block < w.heap.size ∧ ∀ g, A = some ⟨g, 0, none⟩ → a.block ≠ g
theorem RunsAt.lit (w : World) : RunsAt w.heap.size (some ⟨w.heap.size, 0, none⟩) 0 0 [] (w.alloc (.cells #[] 23)) := ⟨Own.lit _ _ _ _ _ (Nat.le_refl _), fun r hr => (by cases hr)⟩
theorem RunsAt.below {base n cap : Nat} {A : Option Addr} {rows : List Row} {w w' : World} (h : RunsAt base A n cap rows w) (hb : Below w.heap.size w w') : RunsAt base A n cap rows w' :=
  ⟨h.1.below hb, fun r hr => ⟨(h.2 r hr).1.below hb, fun a ha => ⟨((h.2 r hr).2 a ha).1, Nat.lt_of_lt_of_le ((h.2 r hr).2 a ha).2.1 hb.size, ((h.2 r hr).2 a ha).2.2⟩⟩⟩
theorem RunsAt.rows {base n cap : Nat} {A : Option Addr} {rows : List Row} {w : World} (h : RunsAt base A n cap rows w) : RdRows w A n rows := ⟨h.1.rd Row.l_len, fun r hr => (h.2 r hr).1⟩
theorem RunsAt.snoc {base k cap B g cap3 m cap' : Nat} {A A' : Option Addr} {out : List Row} {l : List Cell} {w w5 : World} (h : RunsAt base A k cap out w) (hown : OwnC w B A' m cap' l) (hB : ∀ g, A = some ⟨g, 0, none⟩ → g < B) (hBb : base ≤ B) (hl : l.length ≤ 1000000) (hf : ∀ c ∈ l, c.fits)
    (h1 : OwnW w5 base (some ⟨g, 0, none⟩) (k + 1) cap3 (out ++ [⟨A', m, cap', l⟩])) (h2 : Only (fun k => A = some ⟨k, 0, none⟩) w w5) (h3 : A = some ⟨g, 0, none⟩ ∨ w.heap.size ≤ g) : RunsAt base (some ⟨g, 0, none⟩) (k + 1) cap3 (out ++ [⟨A', m, cap', l⟩]) w5 := by
  have hnew : RowOk w ⟨A', m, cap', l⟩ ∧ ∀ a, A' = some a → base ≤ a.block ∧ a.block < w.heap.size ∧ ∀ g, A = some ⟨g, 0, none⟩ → a.block ≠ g := ⟨own_row hown hl hf, fun a ha => by
    rcases hown.shape with ⟨e, _⟩ | ⟨q, e, e2, e3⟩
    · rw [e] at ha; cases ha
    · rw [e] at ha; injection ha with ha; subst ha
      refine ⟨by simp only; omega, e3, fun g hg => ?_⟩
      have := hB g hg
      simp only; omega⟩
  have key : ∀ q : Row, (RowOk w q ∧ ∀ a, q.A = some a → base ≤ a.block ∧ a.block < w.heap.size ∧ ∀ g, A = some ⟨g, 0, none⟩ → a.block ≠ g) → RowOk w5 q ∧ ∀ a, q.A = some a → base ≤ a.block ∧ a.block < w5.heap.size ∧ ∀ g', (some ⟨g, 0, none⟩ : Option Addr) = some ⟨g', 0, none⟩ → a.block ≠ g' := fun q hq => by
    refine ⟨hq.1.only h2 (fun a ha e => (hq.2 a ha).2.2 a.block e rfl), fun a ha => ⟨(hq.2 a ha).1, Nat.lt_of_lt_of_le (hq.2 a ha).2.1 h2.size, fun g' hg' => ?_⟩⟩
    injection hg' with hg'; injection hg' with hg'
    subst hg'
    rcases h3 with h3 | h3
    · exact (hq.2 a ha).2.2 g h3
    · have := (hq.2 a ha).2.1; omega
  refine ⟨h1, fun q hq => ?_⟩
  rcases List.mem_append.1 hq with hq | hq
  · exact key q (h.2 q hq)
  · simp at hq; subst hq; exact key _ hnew
theorem RunsAt.lt {base n cap : Nat} {A : Option Addr} {rows : List Row} {w : World} (h : RunsAt base A n cap rows w) : ∀ g, A = some ⟨g, 0, none⟩ → base ≤ g ∧ g < w.heap.size := fun g hg => by
  rcases h.1.shape with ⟨e, _⟩ | ⟨q, e, e2, e3⟩
  · rw [e] at hg; cases hg
  · rw [e] at hg; injection hg with hg; injection hg with hg; omega

/-- Runs as the laws make them: each sorted. -/
theorem begL_sort {rows out : List Row} (h : out.map Row.xs = rows.map fun r => sortC r.xs) : begL out = rows.map fun r => sortC r.xs := by
  have : begL out = (out.map Row.xs).map begC := by simp [begL]
  rw [this, h, List.map_map]
  exact List.map_congr_left fun r _ => begC_sort r.xs
/-- Two rows in a literal. -/
theorem rows_two {w : World} {b : Nat} {T : TypeId} {f : Nat × Nat} {r q : Row} (h : w.heap[b]? = some (.cells #[.slice r.A r.n r.cap, .slice q.A q.n q.cap] T f)) (hr : RowOk w r) (hq : RowOk w q) : RdRows w (some ⟨b, 0, none⟩) 2 [r, q] :=
  ⟨rd_block h [r, q] rfl Row.l_len, fun s hs => by
    simp only [List.mem_cons, List.not_mem_nil, or_false] at hs
    rcases hs with rfl | rfl
    · exact hr
    · exact hq⟩

/-- What a law is handed: a slice of slices of cells. -/
structure ArgRows (w : World) (A : Option Addr) (n : Nat) (rows : List Row) : Prop where
  rd : Rd 1 Row.l w A n rows
  few : n ≤ 140737488351232
  ok : ∀ r ∈ rows, RdC w r.A r.n r.xs ∧ r.n ≤ 140737488351232 ∧ r.n ≤ r.cap ∧ (r.A = none → r.cap = 0) ∧ ∀ c ∈ r.xs, c.fits
theorem ArgRows.below {w w' : World} {A : Option Addr} {n : Nat} {rows : List Row} (h : ArgRows w A n rows) (hb : Below w.heap.size w w') : ArgRows w' A n rows :=
  ⟨h.rd.below hb, h.few, fun r hr => ⟨(h.ok r hr).1.below hb, (h.ok r hr).2⟩⟩
theorem great_no {rows : List Row} (h : greatC rows = false) : rows.length ≤ 12 ∧ ∀ r ∈ rows, r.xs.length ≤ 60 := by
  unfold greatC at h
  rw [Bool.or_eq_false_iff] at h
  refine ⟨by have := of_decide_eq_false h.1; omega, fun r hr => ?_⟩
  have h2 := List.any_eq_false.1 h.2 r hr
  unfold longC at h2
  rw [Bool.not_eq_true, Bool.or_eq_false_iff] at h2
  have := of_decide_eq_false h2.1
  omega

theorem rows_take {w : World} {A : Option Addr} {n : Nat} {rows : List Row} (h : RdRows w A n rows) (k : Nat) (hk : k ≤ n) : RdRows w A k (rows.take k) := ⟨rd_take h.rd k hk, fun r hr => h.ok r (List.mem_of_mem_take hr)⟩
theorem rows_drop {w : World} {b off n : Nat} {rows : List Row} (h : RdRows w (some ⟨b, off, none⟩) n rows) (k : Nat) (hk : k ≤ n) : RdRows w (some ⟨b, off + k, none⟩) (n - k) (rows.drop k) :=
  ⟨by have := rd_drop h.rd k hk; rwa [Nat.mul_one] at this, fun r hr => h.ok r (List.mem_of_mem_drop hr)⟩
theorem rows_none {w : World} {A : Option Addr} : RdRows w A 0 [] := ⟨Rd.nil _ _ _ _, fun r hr => (by cases hr)⟩
theorem merged_from {L : List (List Cell)} {out : List Cell} (h : Merged L out) (hs : ∀ l ∈ L, Rises l) : ∀ x ∈ out, ∃ l ∈ L, x ∈ l := fun x hx => by
  obtain ⟨i, l, h1, h2, _⟩ := ((merged_first h hs).2 x).1 hx
  exact ⟨l, List.mem_of_getElem? h1, h2⟩
theorem merged_len {L : List (List Cell)} {out : List Cell} (h : Merged L out) : out.length ≤ leftC L := by
  induction h with
  | done _ => simp
  | step hb _ ih => have := leftC_next hb; simp; omega
theorem left_le {L : List (List Cell)} {m : Nat} : ∀ {n : Nat}, L.length ≤ n → (∀ l ∈ L, l.length ≤ m) → leftC L ≤ n * m := by
  unfold leftC
  induction L with
  | nil => intro n _ _; simp
  | cons a L ih =>
    intro n hn h
    have h1 := h a (by simp)
    cases n with
    | zero => simp at hn
    | succ n =>
      have h2 := ih (n := n) (by simpa using hn) (fun l hl => h l (by simp [hl]))
      simp only [List.map_cons, List.sum_cons]
      rw [Nat.succ_mul]; omega
/-- What the laws' sorted runs are. -/
structure Runs (L : List (List Cell)) : Prop where
  rises : ∀ l ∈ L, Rises l
  ok : ∀ l ∈ L, ∀ c ∈ l, c.ok = true
  fits : ∀ l ∈ L, ∀ c ∈ l, c.fits
  few : leftC L ≤ 720
theorem runs_of {w : World} {A : Option Addr} {n : Nat} {rows : List Row} (hg : greatC rows = false) (h : ArgRows w A n rows) : Runs (rows.map fun r => sortC r.xs) := by
  obtain ⟨h12, h60⟩ := great_no hg
  refine ⟨fun l hl => ?_, fun l hl c hc => ?_, fun l hl c hc => ?_, left_le (n := 12) (m := 60) (by simpa using h12) fun l hl => ?_⟩
  all_goals obtain ⟨r, hr, rfl⟩ := List.mem_map.1 hl
  · exact sortC_rises _
  · exact sortC_ok _ c hc
  · exact (h.ok r hr).2.2.2.2 c (sortC_mem _ r.xs rfl c hc)
  · have := sortC_len _ r.xs rfl; have := h60 r hr; omega
theorem Runs.sub {L M : List (List Cell)} (h : Runs L) (hs : M.Sublist L) : Runs M :=
  ⟨fun l hl => h.rises l (hs.mem hl), fun l hl => h.ok l (hs.mem hl), fun l hl => h.fits l (hs.mem hl), by
    have : leftC M ≤ leftC L := by
      unfold leftC
      clear h
      induction hs with
      | slnil => exact Nat.le_refl _
      | cons a _ ih => simp only [List.map_cons, List.sum_cons]; omega
      | cons_cons a _ ih => simp only [List.map_cons, List.sum_cons]; omega
    exact Nat.le_trans this h.few⟩
/-- What runs, made one, are: a run of at most so many cells. -/
theorem Runs.merged {L : List (List Cell)} {out : List Cell} (h : Runs L) (hm : Merged L out) : Rises out ∧ (∀ c ∈ out, c.ok = true) ∧ (∀ c ∈ out, c.fits) ∧ out.length ≤ 720 ∧ begC out = out := by
  have h1 := (merged_first hm h.rises).1
  have hok : ∀ c ∈ out, c.ok = true := fun c hc => by
    obtain ⟨l, hl, hcl⟩ := merged_from hm h.rises c hc
    exact h.ok l hl c hcl
  refine ⟨h1, hok, fun c hc => ?_, Nat.le_trans (merged_len hm) h.few, begC_self h1 hok⟩
  obtain ⟨l, hl, hcl⟩ := merged_from hm h.rises c hc
  exact h.fits l hl c hcl
end Go.Proofs.YtmabmnkdigdaiaaDoor
