/-
  Cells in slices: reading one, appending one; contracts of SameCells, LongCells, CopyCells.
-/
import Derived.Test.YtndmlldaebdnmaaDoorJSl
import Derived.Test.YtndmlldaebdnmaaDoorJEq
namespace Go.Proofs.YtndmlldaebdnmaaDoor
open Go.RowKit

def Cell.l (c : Cell) : List Value := [.string c.row, .string c.fam, .string c.qual, .int .i64 c.time, .int .i64 c.kind, .int .i64 c.vk, .int .i64 c.vn, .string c.vs]
theorem Cell.l_len (c : Cell) : c.l.length = 8 := rfl
theorem Cell.l_one (c : Cell) : ∀ u ∈ c.l, u.oneCell' = true := by
  intro u hu
  simp only [Cell.l, List.mem_cons, List.not_mem_nil, or_false] at hu
  rcases hu with rfl | rfl | rfl | rfl | rfl | rfl | rfl | rfl <;> rfl
instance Cell.decEq : DecidableEq Cell := fun a b => decidable_of_iff _ (Cell.beq_iff a b)
abbrev RdC := Rd 8 Cell.l
abbrev OwnC := Own 31 8 Cell.l

theorem infoCell : (Tryd.prog.info? 31).map (fun i => (i.zero, i.size, i.bytes)) = some (some (.agg #[.string ⟨#[]⟩, .string ⟨#[]⟩, .string ⟨#[]⟩, .int .i64 0, .int .i64 0, .int .i64 0, .int .i64 0, .string ⟨#[]⟩]), 8, 96) := by kernel_rfl

/-- A cell lies at offset o of block b. -/
def At8 (w : World) (b o : Nat) (c : Cell) : Prop := ∀ j v, c.l[j]? = some v → w.cell? ⟨b, o + j, none⟩ = some v
theorem At8.get {w : World} {b o : Nat} {c : Cell} (h : At8 w b o c) : w.cell? ⟨b, o, none⟩ = some (.string c.row) ∧ w.cell? ⟨b, o + 1, none⟩ = some (.string c.fam) ∧ w.cell? ⟨b, o + 2, none⟩ = some (.string c.qual) ∧ w.cell? ⟨b, o + 3, none⟩ = some (.int .i64 c.time) ∧
    w.cell? ⟨b, o + 4, none⟩ = some (.int .i64 c.kind) ∧ w.cell? ⟨b, o + 5, none⟩ = some (.int .i64 c.vk) ∧ w.cell? ⟨b, o + 6, none⟩ = some (.int .i64 c.vn) ∧ w.cell? ⟨b, o + 7, none⟩ = some (.string c.vs) :=
  ⟨h 0 _ rfl, h 1 _ rfl, h 2 _ rfl, h 3 _ rfl, h 4 _ rfl, h 5 _ rfl, h 6 _ rfl, h 7 _ rfl⟩
theorem At8.later {w : World} {b o : Nat} {c : Cell} (h : At8 w b o c) : (∀ X, (w.later X).cell? ⟨b, o, none⟩ = some (.string c.row)) ∧ (∀ X, (w.later X).cell? ⟨b, o + 1, none⟩ = some (.string c.fam)) ∧ (∀ X, (w.later X).cell? ⟨b, o + 2, none⟩ = some (.string c.qual)) ∧ (∀ X, (w.later X).cell? ⟨b, o + 3, none⟩ = some (.int .i64 c.time)) ∧
    (∀ X, (w.later X).cell? ⟨b, o + 4, none⟩ = some (.int .i64 c.kind)) ∧ (∀ X, (w.later X).cell? ⟨b, o + 5, none⟩ = some (.int .i64 c.vk)) ∧ (∀ X, (w.later X).cell? ⟨b, o + 6, none⟩ = some (.int .i64 c.vn)) ∧ (∀ X, (w.later X).cell? ⟨b, o + 7, none⟩ = some (.string c.vs)) :=
  ⟨later_cell (h 0 _ rfl), later_cell (h 1 _ rfl), later_cell (h 2 _ rfl), later_cell (h 3 _ rfl), later_cell (h 4 _ rfl), later_cell (h 5 _ rfl), later_cell (h 6 _ rfl), later_cell (h 7 _ rfl)⟩
theorem At8.below {w w' : World} {b o : Nat} {c : Cell} (h : At8 w b o c) (hb : Below w.heap.size w w') : At8 w' b o c := fun j v hj => below_cell hb (Nat.le_refl _) (h j v hj)
theorem At8.only {w w' : World} {b o : Nat} {c : Cell} {S : Nat → Prop} (h : At8 w b o c) (ho : Only S w w') (hS : ¬ S b) : At8 w' b o c := fun j v hj => ho.cell (h j v hj) hS

/-- Element i. -/
theorem rd8 {w : World} {A : Option Addr} {n : Nat} {xs : List Cell} (h : RdC w A n xs) (i : Nat) (hi : i < n) : ∃ c b off, xs[i]? = some c ∧ A = some ⟨b, off, none⟩ ∧ b < w.heap.size ∧ At8 w b (off + i * 8) c := h.get i hi
/-- .. of a row that begins its block. -/
theorem rd8z {w : World} {g n : Nat} {xs : List Cell} (h : RdC w (some ⟨g, 0, none⟩) n xs) (i : Nat) (hi : i < n) : ∃ c, xs[i]? = some c ∧ At8 w g (i * 8) c := by
  obtain ⟨c, b, off, h1, h2, h3, k⟩ := rd8 h i hi
  injection h2 with h2
  injection h2 with e1 e2 _
  subst e1; subst e2
  rw [Nat.zero_add] at k
  exact ⟨c, h1, k⟩

/-- append(out, c), c just laid into a block of its own. -/
theorem app_cell {w : World} {ops : Array Oper} {rest : List Oper} {o : Oper} {a : Act} {Q : Exit → Act → World → Prop} (hgd : o.guard = none) (s x : Operand)
    (ho : o.op = .call { callee := .builtin .append, args := #[s, x], argTypes := #[22, 22] }) (c : Cell)
    {base n cap nb : Nat} {A : Option Addr} {xs : List Cell} (hs : a.eval s = .slice A n cap) (hown : OwnC w base A n cap xs) (hnb : nb = w.heap.size) (hx : a.eval x = .slice (some ⟨nb, 0, none⟩) 1 1) (hn : n ≤ 1000000) (hbase : base ≤ w.heap.size)
    (h : ∀ g cap' w', OwnC w' base (some ⟨g, 0, none⟩) (n + 1) cap' (xs ++ [c]) → Only (fun k => A = some ⟨k, 0, none⟩) w w' → (A = some ⟨g, 0, none⟩ ∨ w.heap.size < g) → g < w'.heap.size →
      wpList Tryd.prog ops Q rest (a.put o.dst (.slice (some ⟨g, 0, none⟩) (n + 1) cap')) w') : wpList Tryd.prog ops Q (o :: rest) a (w.alloc (.cells c.cells 31)) := by
  obtain ⟨i0, hi, hz0, hz1, hz2⟩ := info_parts infoCell
  subst hnb
  have hb : Below w.heap.size w (w.alloc (.cells c.cells 31)) := (Below.refl _ _).alloc (Nat.le_refl _) _
  refine append_one hgd s x 22 ho i0 _ 96 Tryd.underlying22 hi hz0 hz1 hz2 rfl (by omega) Cell.l_len (c := c) hs (hown.below hb) hx (fun j u hj => ?_) c.l_one (by omega) (by unfold maxLen; omega) (Nat.le_trans hbase hb.size) ?_
  · rw [World.cell?_alloc_new]; simpa [Cell.l] using hj
  · intro g cap' w' h1 h2 h3 h4
    refine h g cap' w' h1 ((hb.only _).trans h2) (h3.imp id fun h3 => ?_) h4
    simp at h3; omega

attribute [local go_sem high] eqCell

set_option maxHeartbeats 1000000 in
theorem same_calls (A B : Option Addr) (n m ca cb : Nat) (xs ys : List Cell) (w : World) (hx : RdC w A n xs) (hy : RdC w B m ys) (hn : n ≤ 100000000) (hm : m ≤ 100000000) :
    Calls Tryd.prog 15 #[.slice A n ca, .slice B m cb] w fun e w' => e = .returned (.bool (decide (xs = ys))) ∧ ∃ q, w' = w.drewN q := by
  by_cases hnm : n = m
  · subst hnm
    go_enter Tryd.func15, Tryd.ntmps15
    go_wp2
    go_loopw [5] (fun i wr => ∃ k q : Nat, k ≤ n ∧ i = .int .i64 k ∧ wr = w.drewN q ∧ Hid (xs.take k = ys.take k)) (fun i _ => n - (intOf i).toNat)
    case atStart => exact ⟨0, 0, Nat.zero_le _, rfl, rfl, rfl⟩
    case round =>
      obtain ⟨k, q, hk, rfl, rfl, hall⟩ := hrel
      by_cases hlt : k < n
      · obtain ⟨c, b, off, hc, rfl, _, hk8⟩ := rd8 hx k hlt
        obtain ⟨d, b', off', hd, rfl, _, hl8⟩ := rd8 hy k hlt
        obtain ⟨k0, k1, k2, k3, k4, k5, k6, k7⟩ := hk8.get
        obtain ⟨l0, l1, l2, l3, l4, l5, l6, l7⟩ := hl8.get
        clear hk8 hl8
        have HX := Lib.hid hx
        have HY := Lib.hid hy
        have HC := Lib.hid hc
        have HD := Lib.hid hd
        clear hx hy hc hd
        cases heq : c.beq d with
        | true =>
          have hE := Lib.hid ((Cell.beq_iff c d).1 heq)
          unfold Cell.beq at heq
          go_wp2
          go_quiet (fail)
          go_wp2
          go_roundw
          case rel =>
            refine ⟨k + 1, q + nq, by omega, by go_num, rfl, ?_⟩
            have := hall.out
            show xs.take (k + 1) = ys.take (k + 1)
            rw [List.take_add_one, List.take_add_one, HC.out, HD.out, this, hE.out]
          case measure => simp [intOf]; omega
        | false =>
          have hE : Hid (¬ xs = ys) := fun e => by
            have h1 := HC.out
            rw [e, HD.out] at h1
            have : d = c := Option.some.inj h1
            rw [this, (Cell.beq_iff c c).2 rfl] at heq
            cases heq
          unfold Cell.beq at heq
          go_wp2
          go_quiet (fail)
          go_wp2
          go_ret
          exact ⟨ret_bool (by rw [decide_eq_false hE.out]), _, by rw [World.drewN_drewN]⟩
      · have hE : Hid (xs = ys) := by
          have := hall.out
          have h1 := hx.len
          have h2 := hy.len
          rwa [List.take_of_length_le (by omega), List.take_of_length_le (by omega)] at this
        clear hx hy
        go_wp2
        go_ret
        exact ⟨ret_bool (by rw [decide_eq_true hE.out]), _, rfl⟩
  · have hE : Hid (¬ xs = ys) := fun e => hnm (by rw [hx.len, hy.len, e])
    have h1 : ((n : Int) != (m : Int)) = true := by simp; omega
    clear hx hy
    go_enter Tryd.func15, Tryd.ntmps15
    go_wp2
    go_ret
    exact ⟨ret_bool (by rw [decide_eq_false hE.out]), 0, rfl⟩

/-- Is a cell greater than is looked at? -/
def Cell.long (c : Cell) : Bool := decide (60 < c.row.size) || (decide (60 < c.fam.size) || (decide (60 < c.qual.size) || decide (100 < c.vs.size)))
def longC (xs : List Cell) (most : Int) : Bool := decide (most < xs.length) || xs.any Cell.long
set_option maxHeartbeats 1000000 in
theorem long_calls (A : Option Addr) (n ca : Nat) (xs : List Cell) (most : Int) (w : World) (hx : RdC w A n xs) (hn : n ≤ 140737488351232) :
    Calls Tryd.prog 22 #[.slice A n ca, .int .i64 most] w fun e w' => e = .returned (.bool (longC xs most)) ∧ w' = w := by
  have hxl := Lib.hid hx.len
  by_cases h0 : most < n
  · have h0' := Lib.hid h0
    clear hx
    go_enter Tryd.func22, Tryd.ntmps22
    go_wp2
    go_ret
    exact ⟨ret_bool (by rw [longC, decide_eq_true (p := most < xs.length) (by rw [← hxl.out]; exact h0'.out)]; rfl), rfl⟩
  go_enter Tryd.func22, Tryd.ntmps22
  go_wp2
  go_loop [5] (fun i => ∃ k : Nat, k ≤ n ∧ i = .int .i64 k ∧ Hid ((xs.take k).any Cell.long = false)) (fun i => n - (intOf i).toNat)
  case atStart => exact ⟨0, Nat.zero_le _, rfl, rfl⟩
  case round =>
    obtain ⟨k, hk, rfl, hall⟩ := hrel
    by_cases hlt : k < n
    · obtain ⟨c, b, off, hc, rfl, _, hk8⟩ := rd8 hx k hlt
      obtain ⟨k0, k1, k2, k3, k4, k5, k6, k7⟩ := hk8.get
      have HC := Lib.hid hc
      clear hx hc hk8 k3 k4 k5 k6
      have hT : Hid (c.long = true → longC xs most = true) := fun h => by
        rw [longC, List.any_eq_true.2 ⟨c, List.mem_of_getElem? HC.out, h⟩, Bool.or_true]
      have hF : Hid (c.long = false → (xs.take (k + 1)).any Cell.long = false) := fun h => by
        have := hall.out
        rw [List.take_add_one, HC.out, List.any_append, this]
        simp [h]
      by_cases g1 : c.row.size ≤ 60
      case neg =>
        have e1 : ¬ (c.row.size : Int) ≤ 60 := by omega
        go_wp2
        go_ret
        exact ⟨ret_bool (by rw [hT.out (by rw [Cell.long, decide_eq_true (p := 60 < c.row.size) (by omega)]; rfl)]), rfl⟩
      have e1 : (c.row.size : Int) ≤ 60 := by omega
      by_cases g2 : c.fam.size ≤ 60
      case neg =>
        have e2 : ¬ (c.fam.size : Int) ≤ 60 := by omega
        go_wp2
        go_ret
        exact ⟨ret_bool (by rw [hT.out (by rw [Cell.long, decide_eq_true (p := 60 < c.fam.size) (by omega)]; simp)]), rfl⟩
      have e2 : (c.fam.size : Int) ≤ 60 := by omega
      by_cases g3 : c.qual.size ≤ 60
      case neg =>
        have e3 : ¬ (c.qual.size : Int) ≤ 60 := by omega
        go_wp2
        go_ret
        exact ⟨ret_bool (by rw [hT.out (by rw [Cell.long, decide_eq_true (p := 60 < c.qual.size) (by omega)]; simp)]), rfl⟩
      have e3 : (c.qual.size : Int) ≤ 60 := by omega
      by_cases g4 : c.vs.size ≤ 100
      case neg =>
        have e4 : ¬ (c.vs.size : Int) ≤ 100 := by omega
        go_wp2
        go_ret
        exact ⟨ret_bool (by rw [hT.out (by rw [Cell.long, decide_eq_true (p := 100 < c.vs.size) (by omega)]; simp)]), rfl⟩
      have e4 : (c.vs.size : Int) ≤ 100 := by omega
      go_wp2
      go_round
      case rel => exact ⟨k + 1, by omega, by go_num, hF.out (by rw [Cell.long, decide_eq_false (p := 60 < c.row.size) (by omega), decide_eq_false (p := 60 < c.fam.size) (by omega), decide_eq_false (p := 60 < c.qual.size) (by omega), decide_eq_false (p := 100 < c.vs.size) (by omega)]; rfl)⟩
      case measure => simp [intOf]; omega
    · clear hx
      go_wp2
      go_ret
      refine ⟨ret_bool ?_, rfl⟩
      have := hall.out
      have h1 := hxl.out
      rw [List.take_of_length_le (by omega)] at this
      rw [longC, this, decide_eq_false (p := most < xs.length) (by omega)]
      rfl
end Go.Proofs.YtndmlldaebdnmaaDoor
