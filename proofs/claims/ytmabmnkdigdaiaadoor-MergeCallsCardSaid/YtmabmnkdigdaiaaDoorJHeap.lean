/-
  Runs in a heap's row: the methods that container/heap calls, by their contracts.
-/
import Derived.Test.YtmabmnkdigdaiaaDoorJCells
import Derived.Test.YtmabmnkdigdaiaaDoorJIface
import Derived.BigRegion
namespace Go.Proofs.YtmabmnkdigdaiaaDoor
open Go.RowKit

/-- What is left of a run, and which one it is. -/
structure Run where
  b : Nat
  off : Nat
  n : Nat
  cap : Nat
  xs : List Cell
  turn : Int
def Run.l (r : Run) : List Value := [.slice (some ⟨r.b, r.off, none⟩) r.n r.cap, .int .i64 r.turn]
theorem Run.l_len (r : Run) : r.l.length = 2 := rfl
abbrev OwnR := Own 57 2 Run.l

/-- The first cell of a run that has one. -/
def Run.hd (r : Run) : Cell := r.xs.headD ⟨⟨#[]⟩, ⟨#[]⟩, ⟨#[]⟩, 0, 0, 0, 0, ⟨#[]⟩⟩
def Run.less (a b : Run) : Bool := decide (orI [a.hd.order b.hd, cmpI a.turn b.turn] < 0)

/-- The runs' cells, that nobody turns; none in the row's own block or in block bm. -/
structure RunOk (w : World) (bm : Nat) (A : Option Addr) (r : Run) : Prop where
  rd : RdC w (some ⟨r.b, r.off, none⟩) r.n r.xs
  small : r.n ≤ 1000000
  room : r.n ≤ r.cap
  farm : r.b ≠ bm
  farg : ∀ g, A = some ⟨g, 0, none⟩ → r.b ≠ g

/-- A heap's row at block bm: it holds rs. -/
structure HeapAt (w : World) (base bm : Nat) (A : Option Addr) (n cap : Nat) (rs : List Run) : Prop where
  head : w.cell? ⟨bm, 0, none⟩ = some (.slice A n cap)
  free : w.frozen? ⟨bm, 0, none⟩ = false
  own : OwnR w base A n cap rs
  below : base ≤ bm
  sep : ∀ g, A = some ⟨g, 0, none⟩ → g ≠ bm
  ok : ∀ r ∈ rs, RunOk w bm A r
  few : n ≤ 1000000

theorem meth_Len {w : World} {p : Addr} {A : Option Addr} {n cap : Nat} (h : w.cell? p = some (.slice A n cap)) (F : Nat) : (method (F + 1) 59 (.pointer (some p)) "Len").run Tryd.prog w = .ok (80, .slice A n cap) w := by
  refine method_of (P := Tryd.prog) (E := 53) (by kernel_rfl) Tryd.underlying59 ?_
  go_simp
theorem meth_Less {w : World} {p : Addr} {A : Option Addr} {n cap : Nat} (h : w.cell? p = some (.slice A n cap)) (F : Nat) : (method (F + 1) 59 (.pointer (some p)) "Less").run Tryd.prog w = .ok (81, .slice A n cap) w := by
  refine method_of (P := Tryd.prog) (E := 53) (by kernel_rfl) Tryd.underlying59 ?_
  go_simp
theorem meth_Swap {w : World} {p : Addr} {A : Option Addr} {n cap : Nat} (h : w.cell? p = some (.slice A n cap)) (F : Nat) : (method (F + 1) 59 (.pointer (some p)) "Swap").run Tryd.prog w = .ok (82, .slice A n cap) w := by
  refine method_of (P := Tryd.prog) (E := 53) (by kernel_rfl) Tryd.underlying59 ?_
  go_simp
theorem meth_Pop {w : World} {p : Addr} (F : Nat) : (method (F + 1) 59 (.pointer (some p)) "Pop").run Tryd.prog w = .ok (83, .pointer (some p)) w :=
  method_to (P := Tryd.prog) (E := 53) (by kernel_rfl) Tryd.underlying59

theorem rlen_calls (A : Option Addr) (n cap : Nat) (w : World) : Calls Tryd.prog 80 #[.slice A n cap] w fun e w' => e = .returned (.int .i64 n) ∧ w' = w := by
  go_enter Tryd.func80, Tryd.ntmps80
  go_wp2
  go_ret
  exact ⟨rfl, rfl⟩

/-- The cells of element i of a heap's row. -/
theorem HeapAt.get {w : World} {base bm n cap : Nat} {A : Option Addr} {rs : List Run} (h : HeapAt w base bm A n cap rs) (i : Nat) (hi : i < n) : ∃ r g, rs[i]? = some r ∧ A = some ⟨g, 0, none⟩ ∧ base ≤ g ∧ g < w.heap.size ∧
    w.cell? ⟨g, i * 2, none⟩ = some (.slice (some ⟨r.b, r.off, none⟩) r.n r.cap) ∧ w.cell? ⟨g, i * 2 + 1, none⟩ = some (.int .i64 r.turn) ∧ RunOk w bm A r := by
  rcases h.own.shape with ⟨_, hx⟩ | ⟨g, hA, hg, hg2⟩
  · have := h.own.1; rw [hx] at this; simp at this; omega
  · obtain ⟨r, b, off, h1, h2, h3, h4⟩ := (h.own.rd Run.l_len).get i hi
    rw [hA] at h2
    injection h2 with h2
    injection h2 with e1 e2 _
    subst e1; subst e2
    have c0 := h4 0 _ rfl
    have c1 := h4 1 _ rfl
    simp only [Nat.zero_add, Nat.add_zero] at c0 c1
    exact ⟨r, g, h1, hA, hg, hg2, c0, c1, h.ok r (List.mem_of_getElem? h1)⟩
/-- A run's first cell. -/
theorem RunOk.first {w : World} {bm : Nat} {A : Option Addr} {r : Run} (h : RunOk w bm A r) (hne : r.xs ≠ []) : 0 < r.n ∧ At8 w r.b r.off r.hd := by
  have hn0 : 0 < r.n := by
    have := h.rd.len
    cases hx : r.xs with
    | nil => exact absurd hx hne
    | cons c t => rw [hx] at this; simp at this; omega
  obtain ⟨c, b', off', k1, k2, k3, k4⟩ := rd8 h.rd 0 hn0
  injection k2 with k2
  injection k2 with e1 e2 _
  subst e1; subst e2
  have hc : c = r.hd := by
    unfold Run.hd
    cases hx : r.xs with
    | nil => exact absurd hx hne
    | cons c t => rw [hx] at k1; simp at k1; simp [k1]
  rw [Nat.zero_mul, Nat.add_zero, hc] at k4
  exact ⟨hn0, k4⟩

theorem two_cells (W : World) (x0 x1 : Int) (t : TypeId) : ∀ k (h : k < [x0, x1].length), (W.alloc (.cells #[.int .i64 x0, .int .i64 x1] t)).cell? ⟨W.heap.size, k, none⟩ = some (.int .i64 ([x0, x1][k]'h)) := by
  intro k hk
  rw [World.cell?_alloc_new]
  match k, hk with
  | 0, _ => rfl
  | 1, _ => rfl
  | k + 2, h => exact absurd h (by simp)

set_option maxHeartbeats 4000000 in
theorem less_calls (base bm : Nat) (A : Option Addr) (n cap i k : Nat) (rs : List Run) (a b : Run) (w : World) (h : HeapAt w base bm A n cap rs) (hi : i < n) (hk : k < n) (ha : rs[i]? = some a) (hb : rs[k]? = some b) (hna : a.xs ≠ []) (hnb : b.xs ≠ []) :
    Calls Tryd.prog 81 #[.slice A n cap, .int .i64 i, .int .i64 k] w fun e w' => e = .returned (.bool (a.less b)) ∧ Below w.heap.size w w' := by
  obtain ⟨r, g, h1, rfl, _, _, c0, c1, ok1⟩ := h.get i hi
  obtain ⟨s, g', h2, hg, _, _, d0, d1, ok2⟩ := h.get k hk
  obtain rfl : r = a := Option.some.inj (h1.symm.trans ha)
  obtain rfl : s = b := Option.some.inj (h2.symm.trans hb)
  injection hg with hg
  injection hg with hg _ _
  subst hg
  obtain ⟨n1, a8⟩ := ok1.first hna
  obtain ⟨n2, b8⟩ := ok2.first hnb
  clear hna hnb
  have hn1 := ok1.small
  have hn2 := ok2.small
  have hfew := h.few
  have hC0 := later_cell c0
  have hC1 := later_cell c1
  have hD0 := later_cell d0
  have hD1 := later_cell d1
  obtain ⟨k0, k1, k2, k3, k4, k5, k6, k7⟩ := a8.later
  obtain ⟨l0, l1, l2, l3, l4, l5, l6, l7⟩ := b8.later
  have i0 : (0 : Int) ≤ (i : Int) := by omega
  have i1 : (i : Int) < (n : Int) := by omega
  have j0 : (0 : Int) ≤ (k : Int) := by omega
  have j1 : (k : Int) < (n : Int) := by omega
  have m1 : (0 : Int) < (r.n : Int) := by omega
  have m2 : (0 : Int) < (s.n : Int) := by omega
  clear h ha hb h1 h2 ok1 ok2 a8 b8 c0 c1 d0 d1
  go_enter Tryd.func81, Tryd.ntmps81
  go_wp2
  refine wp_region_later_tail 26 (by kernel_rfl) (by kernel_rfl) ?_
  simp only [List.take_succ_cons, List.take_zero, List.drop_succ_cons, List.drop_zero]
  repeat (go_big_quiet_step ((first
    | (go_at_call 33; exact calls_later (order_calls r.hd s.hd _))
    | (go_at_call 43; exact calls_later_same (compare_calls _ _ _)))))
  refine wpQuiet_nil ?_
  intro W1 hW1
  have hB1 : Below w.heap.size w W1 := by
    obtain ⟨X, rfl⟩ := hW1
    exact later_below w X
  clear hW1 hC0 hC1 hD0 hD1 k0 k1 k2 k3 k4 k5 k6 k7 l0 l1 l2 l3 l4 l5 l6 l7
  go_wp2_with (go_at_call 41; refine (or_calls [r.hd.order s.hd, cmpI r.turn s.turn] W1.heap.size _ (by simp) (two_cells _ _ _ _)).mono ?_; rintro e w' ⟨rfl, rfl⟩)
  go_ret
  exact ⟨rfl, hB1.alloc (by have := hB1.size; omega) _⟩
end Go.Proofs.YtmabmnkdigdaiaaDoor
