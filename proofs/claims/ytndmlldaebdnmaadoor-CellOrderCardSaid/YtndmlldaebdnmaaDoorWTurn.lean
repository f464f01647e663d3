/-
  (*sieve).lives, (*sieve).turn.
-/
import Derived.Test.YtndmlldaebdnmaaDoorWSieve
namespace Go.Proofs.YtndmlldaebdnmaaDoor
open Go.RowKit

/-- The sieve, box by box. -/
abbrev svV (v life now : Int) (s : Sv) : Array Value := #[.int .i64 v, .int .i64 life, .int .i64 now,
  .string s.family.row, .string s.family.fam, .string s.family.qual, .int .i64 s.family.time, .int .i64 s.family.kind, .int .i64 s.family.vk, .int .i64 s.family.vn, .string s.family.vs,
  .string s.column.row, .string s.column.fam, .string s.column.qual, .int .i64 s.column.time, .int .i64 s.column.kind, .int .i64 s.column.vk, .int .i64 s.column.vn, .string s.column.vs,
  .string s.single.row, .string s.single.fam, .string s.single.qual, .int .i64 s.single.time, .int .i64 s.single.kind, .int .i64 s.single.vk, .int .i64 s.single.vn, .string s.single.vs,
  .string s.last.row, .string s.last.fam, .string s.last.qual, .int .i64 s.last.time, .int .i64 s.last.kind, .int .i64 s.last.vk, .int .i64 s.last.vn, .string s.last.vs, .int .i64 s.n]
structure SvAt (w : World) (b : Nat) (v life now : Int) (s : Sv) : Prop where
  row : w.heap[b]? = some (.cells (svV v life now s) 54)
theorem SvAt.get {w : World} {b : Nat} {v life now : Int} {s : Sv} (h : SvAt w b v life now s) (i : Nat) (x : Value) (hx : (svV v life now s)[i]? = some x) : w.cell? ⟨b, i, none⟩ = some x := by
  simp only [World.cell?, h.row]
  simpa using hx
theorem SvAt.lt {w : World} {b : Nat} {v life now : Int} {s : Sv} (h : SvAt w b v life now s) : b < w.heap.size := by
  rcases Nat.lt_or_ge b w.heap.size with h1 | h1
  · exact h1
  · have := h.row; rw [Array.getElem?_eq_none h1] at this; cases this
theorem SvAt.below {w w' : World} {b : Nat} {v life now : Int} {s : Sv} (h : SvAt w b v life now s) (hb : Below w.heap.size w w') : SvAt w' b v life now s := ⟨(hb.block b h.lt).trans h.row⟩

theorem set_row {W : World} {b i : Nat} {cs : Array Value} {T : TypeId} {f : Nat × Nat} {x : Value} (h : W.heap[b]? = some (.cells cs T f)) : (W.setCell ⟨b, i, none⟩ x).heap[b]? = some (.cells (cs.setIfInBounds i x) T f) := by
  unfold World.setCell
  simp [Array.getElem?_modify, h]
theorem set_only (W : World) (b i : Nat) (x : Value) : Only (fun k => k = b) W (W.setCell ⟨b, i, none⟩ x) := by
  refine ⟨rfl, rfl, rfl, ?_, fun k _ hk => ?_⟩
  · unfold World.setCell; simp
  · unfold World.setCell
    have hk' : ¬ b = k := fun e => hk e.symm
    simp [Array.getElem?_modify, hk']
/-- Eight boxes are laid anew. -/
abbrev set8 (W : World) (b i : Nat) (c : Cell) : World := (((((((W.setCell ⟨b, i, none⟩ (.string c.row)).setCell ⟨b, i + 1, none⟩ (.string c.fam)).setCell ⟨b, i + 2, none⟩ (.string c.qual)).setCell ⟨b, i + 3, none⟩ (.int .i64 c.time)).setCell ⟨b, i + 4, none⟩ (.int .i64 c.kind)).setCell ⟨b, i + 5, none⟩ (.int .i64 c.vk)).setCell ⟨b, i + 6, none⟩ (.int .i64 c.vn)).setCell ⟨b, i + 7, none⟩ (.string c.vs)
theorem set8_only (W : World) (b i : Nat) (c : Cell) : Only (fun k => k = b) W (set8 W b i c) :=
  (((((((set_only _ _ _ _).trans (set_only _ _ _ _)).trans (set_only _ _ _ _)).trans (set_only _ _ _ _)).trans (set_only _ _ _ _)).trans (set_only _ _ _ _)).trans (set_only _ _ _ _)).trans (set_only _ _ _ _)
abbrev set8A (cs : Array Value) (i : Nat) (c : Cell) : Array Value := (((((((cs.setIfInBounds i (.string c.row)).setIfInBounds (i + 1) (.string c.fam)).setIfInBounds (i + 2) (.string c.qual)).setIfInBounds (i + 3) (.int .i64 c.time)).setIfInBounds (i + 4) (.int .i64 c.kind)).setIfInBounds (i + 5) (.int .i64 c.vk)).setIfInBounds (i + 6) (.int .i64 c.vn)).setIfInBounds (i + 7) (.string c.vs)
theorem set8_row {W : World} {b i : Nat} {cs : Array Value} {T : TypeId} {f : Nat × Nat} {c : Cell} (h : W.heap[b]? = some (.cells cs T f)) : (set8 W b i c).heap[b]? = some (.cells (set8A cs i c) T f) := set_row (set_row (set_row (set_row (set_row (set_row (set_row (set_row h)))))))
theorem svV_family (v life now : Int) (s : Sv) (c : Cell) : set8A (svV v life now s) 3 c = svV v life now { s with family := c } := by kernel_rfl
theorem SvAt.family {W : World} {b : Nat} {v life now : Int} {s : Sv} (h : SvAt W b v life now s) (c : Cell) : SvAt (set8 W b 3 c) b v life now { s with family := c } := ⟨by rw [← svV_family]; exact set8_row h.row⟩
theorem svV_column (v life now : Int) (s : Sv) (c : Cell) : set8A (svV v life now s) 11 c = svV v life now { s with column := c } := by kernel_rfl
theorem SvAt.column {W : World} {b : Nat} {v life now : Int} {s : Sv} (h : SvAt W b v life now s) (c : Cell) : SvAt (set8 W b 11 c) b v life now { s with column := c } := ⟨by rw [← svV_column]; exact set8_row h.row⟩
theorem svV_single (v life now : Int) (s : Sv) (c : Cell) : set8A (svV v life now s) 19 c = svV v life now { s with single := c } := by kernel_rfl
theorem SvAt.single {W : World} {b : Nat} {v life now : Int} {s : Sv} (h : SvAt W b v life now s) (c : Cell) : SvAt (set8 W b 19 c) b v life now { s with single := c } := ⟨by rw [← svV_single]; exact set8_row h.row⟩
theorem svV_last (v life now : Int) (s : Sv) (c : Cell) : set8A (svV v life now s) 27 c = svV v life now { s with last := c } := by kernel_rfl
theorem SvAt.last {W : World} {b : Nat} {v life now : Int} {s : Sv} (h : SvAt W b v life now s) (c : Cell) : SvAt (set8 W b 27 c) b v life now { s with last := c } := ⟨by rw [← svV_last]; exact set8_row h.row⟩
theorem svV_n (v life now : Int) (s : Sv) (n : Int) : (svV v life now s).setIfInBounds 35 (.int .i64 n) = svV v life now { s with n := n } := by kernel_rfl
theorem SvAt.count {W : World} {b : Nat} {v life now : Int} {s : Sv} (h : SvAt W b v life now s) (n : Int) : SvAt (W.setCell ⟨b, 35, none⟩ (.int .i64 n)) b v life now { s with n := n } := ⟨by rw [← svV_n]; exact set_row h.row⟩

set_option maxHeartbeats 1000000 in
set_option maxRecDepth 20000 in
theorem lives_calls (b : Nat) (v life now : Int) (s : Sv) (c : Cell) (w : World) (h : SvAt w b v life now s) (hw : life = 0 ∨ wrap64 (now - c.time) = now - c.time) :
    Calls Tryd.prog 44 #[.pointer (some ⟨b, 0, none⟩), c.v] w fun e w' => e = .returned (.bool (livesB life now c)) ∧ Below w.heap.size w w' := by
  obtain ⟨hB, ca⟩ := one_box w c.cells 31
  have HB := Lib.hid hB
  have hlt := h.lt
  have c1 := h.get 1 _ rfl
  have c2 := h.get 2 _ rfl
  clear hB ca h
  by_cases h0 : life = 0
  · subst h0
    have HE : Hid (livesB 0 now c = true) := by unfold Hid livesB; rw [decide_eq_true rfl]; rfl
    clear hw
    go_enter Tryd.func44, Tryd.ntmps44
    go_wp2
    go_quiet (fail)
    go_wp2
    go_ret
    exact ⟨ret_bool (by rw [HE.out]), HB.out.trans ((drewN_below _ _).mono HB.out.size)⟩
  · have hk : (life == 0) = false := by simpa using h0
    have hwr : wrap64 (now - c.time) = now - c.time := hw.resolve_left h0
    have HE : Hid (livesB life now c = decide (now - c.time < life)) := by unfold Hid livesB; rw [decide_eq_false h0, Bool.false_or]
    clear h0 hw
    go_enter Tryd.func44, Tryd.ntmps44
    go_wp2
    go_quiet (fail)
    go_wp2
    go_ret
    exact ⟨ret_bool (by rw [HE.out]), HB.out.trans ((drewN_below _ _).mono HB.out.size)⟩

set_option maxHeartbeats 2000000 in
set_option maxRecDepth 20000 in
theorem turn_calls (b : Nat) (v life now : Int) (s : Sv) (c : Cell) (w : World) (h : SvAt w b v life now s) :
    Calls Tryd.prog 42 #[.pointer (some ⟨b, 0, none⟩), c.v] w fun e w' => e = .returned (.tuple #[]) ∧ Only (fun k => k = b) w w' ∧ SvAt w' b v life now (s.turn c) := by
  obtain ⟨hB, ca⟩ := one_box w c.cells 31
  obtain ⟨W0, hW0⟩ : ∃ W0, W0 = w.alloc (.cells c.cells 31) := ⟨_, rfl⟩
  rw [← hW0] at hB ca
  have HB := Lib.hid hB
  have HA := Lib.hid ca
  have HS := Lib.hid (h.below hB)
  have HW0 := Lib.hid hW0
  clear hB ca hW0
  go_enter Tryd.func42, Tryd.ntmps42
  go_wp2_with fail
  rw [← HW0.out]
  obtain ⟨g, hg⟩ : ∃ g, g = !groupB c s.last := ⟨_, rfl⟩
  have HAP : Hid (∀ (V X : World), Calls Tryd.prog 56 #[c.v, s.last.v] (V.later X) fun e w'' => e = .returned (.bool g) ∧ ∃ Y, w'' = V.later Y) := fun V X => calls_later (by
    have := apart_calls c s.last (V.later X)
    rw [← hg] at this
    exact this)
  have HG := Lib.hid hg
  clear hg
  have j0 := later_cell (HA.out 0 _ rfl)
  have j1 := later_cell (HA.out 1 _ rfl)
  have j2 := later_cell (HA.out 2 _ rfl)
  have j3 := later_cell (HA.out 3 _ rfl)
  have j4 := later_cell (HA.out 4 _ rfl)
  have j5 := later_cell (HA.out 5 _ rfl)
  have j6 := later_cell (HA.out 6 _ rfl)
  have j7 := later_cell (HA.out 7 _ rfl)
  have l0 := later_cell (HS.out.get 27 _ rfl)
  have l1 := later_cell (HS.out.get 28 _ rfl)
  have l2 := later_cell (HS.out.get 29 _ rfl)
  have l3 := later_cell (HS.out.get 30 _ rfl)
  have l4 := later_cell (HS.out.get 31 _ rfl)
  have l5 := later_cell (HS.out.get 32 _ rfl)
  have l6 := later_cell (HS.out.get 33 _ rfl)
  have l7 := later_cell (HS.out.get 34 _ rfl)
  refine wp_region_later (by kernel_rfl) (by kernel_rfl) ?_
  repeat (go_big_quiet_step ((go_at_call 56; exact HAP.out _ _)))
  refine wpQuiet_nil ?_
  intro W1 hW1
  have hB1 : Below W0.heap.size W0 W1 := by
    obtain ⟨X, rfl⟩ := hW1
    exact later_below W0 X
  have HB1 := Lib.hid (HB.out.trans (hB1.mono HB.out.size))
  have HS1 := Lib.hid (HS.out.below hB1)
  have HA1 : Hid (∀ (i : Nat) v, c.cells[i]? = some v → W1.cell? ⟨w.heap.size, i, none⟩ = some v) := fun i v hv => below_cell hB1 (Nat.le_refl _) (HA.out i v hv)
  have hne : ¬ w.heap.size = b := by have := h.lt; omega
  have hlt1 := HS1.out.lt
  clear hW1 hB1 HS HA HB j0 j1 j2 j3 j4 j5 j6 j7 l0 l1 l2 l3 l4 l5 l6 l7
  cases g with
  | true =>
    have hfz : ∀ o, W1.frozen? ⟨b, o, none⟩ = false := fun o => Lib.frozen_of_heap HS1.out.row o
    have c3 := HS1.out.get 3 _ rfl
    have c4 := HS1.out.get 4 _ rfl
    have c5 := HS1.out.get 5 _ rfl
    have c6 := HS1.out.get 6 _ rfl
    have c7 := HS1.out.get 7 _ rfl
    have c8 := HS1.out.get 8 _ rfl
    have c9 := HS1.out.get 9 _ rfl
    have c10 := HS1.out.get 10 _ rfl
    have f3 := hfz 3
    have f4 := hfz 4
    have f5 := hfz 5
    have f6 := hfz 6
    have f7 := hfz 7
    have f8 := hfz 8
    have f9 := hfz 9
    have f10 := hfz 10
    clear hfz
    go_wp2_with fail
    generalize hW2 : ((((((((W1.setCell ⟨b, 3, none⟩ (.string ⟨#[]⟩)).setCell ⟨b, 4, none⟩ (.string ⟨#[]⟩)).setCell ⟨b, 5, none⟩ (.string ⟨#[]⟩)).setCell ⟨b, 6, none⟩ (.int .i64 0)).setCell ⟨b, 7, none⟩ (.int .i64 0)).setCell ⟨b, 8, none⟩ (.int .i64 0)).setCell ⟨b, 9, none⟩ (.int .i64 0)).setCell ⟨b, 10, none⟩ (.string ⟨#[]⟩)) = W2
    have HS2 : Hid (SvAt W2 b v life now { s with family := nilC }) := by rw [← hW2]; exact HS1.out.family nilC
    have HO2 : Hid (Only (fun k => k = b) w W2) := by rw [← hW2]; exact (HB1.out.only _).trans (set8_only W1 b 3 nilC)
    have HA2 : Hid (∀ (i : Nat) v, c.cells[i]? = some v → W2.cell? ⟨w.heap.size, i, none⟩ = some v) := fun i x hx => by rw [← hW2]; exact (set8_only W1 b 3 nilC).cell (HA1.out i x hx) hne
    clear hW2 c3 c4 c5 c6 c7 c8 c9 c10 f3 f4 f5 f6 f7 f8 f9 f10 HA1 HS1 HB1 hlt1
    have j0 := later_cell (HA2.out 0 _ rfl)
    have j1 := later_cell (HA2.out 1 _ rfl)
    have j2 := later_cell (HA2.out 2 _ rfl)
    have j3 := later_cell (HA2.out 3 _ rfl)
    have j4 := later_cell (HA2.out 4 _ rfl)
    have j5 := later_cell (HA2.out 5 _ rfl)
    have j6 := later_cell (HA2.out 6 _ rfl)
    have j7 := later_cell (HA2.out 7 _ rfl)
    have l0 := later_cell (HS2.out.get 27 _ rfl)
    have l1 := later_cell (HS2.out.get 28 _ rfl)
    have l2 := later_cell (HS2.out.get 29 _ rfl)
    have l3 := later_cell (HS2.out.get 30 _ rfl)
    have l4 := later_cell (HS2.out.get 31 _ rfl)
    have l5 := later_cell (HS2.out.get 32 _ rfl)
    have l6 := later_cell (HS2.out.get 33 _ rfl)
    have l7 := later_cell (HS2.out.get 34 _ rfl)
    refine wp_region_later (by kernel_rfl) (by kernel_rfl) ?_
    repeat (go_big_quiet_step ((go_at_call 56; exact HAP.out _ _)))
    refine wpQuiet_nil ?_
    intro W3 hW3
    have hB3 : Below W2.heap.size W2 W3 := by
      obtain ⟨X, rfl⟩ := hW3
      exact later_below W2 X
    have HO3 := Lib.hid (HO2.out.trans (hB3.only _))
    have HS3 := Lib.hid (HS2.out.below hB3)
    have HA3 : Hid (∀ (i : Nat) v, c.cells[i]? = some v → W3.cell? ⟨w.heap.size, i, none⟩ = some v) := fun i v hv => below_cell hB3 (Nat.le_refl _) (HA2.out i v hv)
    have hlt3 := HS3.out.lt
    clear hW3 hB3 j0 j1 j2 j3 j4 j5 j6 j7 l0 l1 l2 l3 l4 l5 l6 l7 HA2 HS2 HO2
    have c11 := HS3.out.get 11 _ rfl
    have f11 := Lib.frozen_of_heap HS3.out.row 11
    have c12 := HS3.out.get 12 _ rfl
    have f12 := Lib.frozen_of_heap HS3.out.row 12
    have c13 := HS3.out.get 13 _ rfl
    have f13 := Lib.frozen_of_heap HS3.out.row 13
    have c14 := HS3.out.get 14 _ rfl
    have f14 := Lib.frozen_of_heap HS3.out.row 14
    have c15 := HS3.out.get 15 _ rfl
    have f15 := Lib.frozen_of_heap HS3.out.row 15
    have c16 := HS3.out.get 16 _ rfl
    have f16 := Lib.frozen_of_heap HS3.out.row 16
    have c17 := HS3.out.get 17 _ rfl
    have f17 := Lib.frozen_of_heap HS3.out.row 17
    have c18 := HS3.out.get 18 _ rfl
    have f18 := Lib.frozen_of_heap HS3.out.row 18
    have c19 := HS3.out.get 19 _ rfl
    have f19 := Lib.frozen_of_heap HS3.out.row 19
    have c20 := HS3.out.get 20 _ rfl
    have f20 := Lib.frozen_of_heap HS3.out.row 20
    have c21 := HS3.out.get 21 _ rfl
    have f21 := Lib.frozen_of_heap HS3.out.row 21
    have c22 := HS3.out.get 22 _ rfl
    have f22 := Lib.frozen_of_heap HS3.out.row 22
    have c23 := HS3.out.get 23 _ rfl
    have f23 := Lib.frozen_of_heap HS3.out.row 23
    have c24 := HS3.out.get 24 _ rfl
    have f24 := Lib.frozen_of_heap HS3.out.row 24
    have c25 := HS3.out.get 25 _ rfl
    have f25 := Lib.frozen_of_heap HS3.out.row 25
    have c26 := HS3.out.get 26 _ rfl
    have f26 := Lib.frozen_of_heap HS3.out.row 26
    have c27 := HS3.out.get 27 _ rfl
    have f27 := Lib.frozen_of_heap HS3.out.row 27
    have c28 := HS3.out.get 28 _ rfl
    have f28 := Lib.frozen_of_heap HS3.out.row 28
    have c29 := HS3.out.get 29 _ rfl
    have f29 := Lib.frozen_of_heap HS3.out.row 29
    have c30 := HS3.out.get 30 _ rfl
    have f30 := Lib.frozen_of_heap HS3.out.row 30
    have c31 := HS3.out.get 31 _ rfl
    have f31 := Lib.frozen_of_heap HS3.out.row 31
    have c32 := HS3.out.get 32 _ rfl
    have f32 := Lib.frozen_of_heap HS3.out.row 32
    have c33 := HS3.out.get 33 _ rfl
    have f33 := Lib.frozen_of_heap HS3.out.row 33
    have c34 := HS3.out.get 34 _ rfl
    have f34 := Lib.frozen_of_heap HS3.out.row 34
    have c35 := HS3.out.get 35 _ rfl
    have f35 := Lib.frozen_of_heap HS3.out.row 35
    have e0 := HA3.out 0 _ rfl
    have e1 := HA3.out 1 _ rfl
    have e2 := HA3.out 2 _ rfl
    have e3 := HA3.out 3 _ rfl
    have e4 := HA3.out 4 _ rfl
    have e5 := HA3.out 5 _ rfl
    have e6 := HA3.out 6 _ rfl
    have e7 := HA3.out 7 _ rfl
    have HT : Hid (s.turn c = { ({ ({ ({ ({ s with family := nilC } : Sv) with column := nilC } : Sv) with single := nilC } : Sv) with n := 0 } : Sv) with last := c }) := by
      unfold Hid Sv.turn
      rw [if_pos (by have := HG.out; simpa using this.symm)]
    go_wp2
    go_end0
    refine ⟨rfl, HO3.out.trans ((((set8_only W3 b 11 nilC).trans (set8_only _ b 19 nilC)).trans (set_only _ b 35 _)).trans (set8_only _ b 27 c)), ?_⟩
    rw [HT.out]
    exact (((HS3.out.column nilC).single nilC).count 0).last c
  | false =>
    have j0 := later_cell (HA1.out 0 _ rfl)
    have j1 := later_cell (HA1.out 1 _ rfl)
    have j2 := later_cell (HA1.out 2 _ rfl)
    have j3 := later_cell (HA1.out 3 _ rfl)
    have j4 := later_cell (HA1.out 4 _ rfl)
    have j5 := later_cell (HA1.out 5 _ rfl)
    have j6 := later_cell (HA1.out 6 _ rfl)
    have j7 := later_cell (HA1.out 7 _ rfl)
    have l0 := later_cell (HS1.out.get 27 _ rfl)
    have l1 := later_cell (HS1.out.get 28 _ rfl)
    have l2 := later_cell (HS1.out.get 29 _ rfl)
    have l3 := later_cell (HS1.out.get 30 _ rfl)
    have l4 := later_cell (HS1.out.get 31 _ rfl)
    have l5 := later_cell (HS1.out.get 32 _ rfl)
    have l6 := later_cell (HS1.out.get 33 _ rfl)
    have l7 := later_cell (HS1.out.get 34 _ rfl)
    have hsq := str_dec c.qual s.last.qual
    by_cases hq : c.qual = s.last.qual
    · rw [decide_eq_true hq] at hsq
      by_cases hk : s.last.kind = 4
      · have hkb : (s.last.kind == 4) = true := by simp [hk]
        have HQ : Hid (c.qual ≠ s.last.qual ∨ s.last.kind = 4) := .inr hk
        clear hq hk
        go_wp2
        refine wp_region_later (by kernel_rfl) (by kernel_rfl) ?_
        repeat (go_big_quiet_step ((go_at_call 56; exact HAP.out _ _)))
        refine wpQuiet_nil ?_
        intro W3 hW3
        have hB3 : Below W1.heap.size W1 W3 := by
          obtain ⟨X, rfl⟩ := hW3
          exact later_below W1 X
        have HO3 := Lib.hid ((HB1.out.only (fun k => k = b)).trans (hB3.only _))
        have HS3 := Lib.hid (HS1.out.below hB3)
        have HA3 : Hid (∀ (i : Nat) v, c.cells[i]? = some v → W3.cell? ⟨w.heap.size, i, none⟩ = some v) := fun i v hv => below_cell hB3 (Nat.le_refl _) (HA1.out i v hv)
        have hlt3 := HS3.out.lt
        clear hW3 hB3 j0 j1 j2 j3 j4 j5 j6 j7 l0 l1 l2 l3 l4 l5 l6 l7 HA1 HS1 HB1
        have c11 := HS3.out.get 11 _ rfl
        have f11 := Lib.frozen_of_heap HS3.out.row 11
        have c12 := HS3.out.get 12 _ rfl
        have f12 := Lib.frozen_of_heap HS3.out.row 12
        have c13 := HS3.out.get 13 _ rfl
        have f13 := Lib.frozen_of_heap HS3.out.row 13
        have c14 := HS3.out.get 14 _ rfl
        have f14 := Lib.frozen_of_heap HS3.out.row 14
        have c15 := HS3.out.get 15 _ rfl
        have f15 := Lib.frozen_of_heap HS3.out.row 15
        have c16 := HS3.out.get 16 _ rfl
        have f16 := Lib.frozen_of_heap HS3.out.row 16
        have c17 := HS3.out.get 17 _ rfl
        have f17 := Lib.frozen_of_heap HS3.out.row 17
        have c18 := HS3.out.get 18 _ rfl
        have f18 := Lib.frozen_of_heap HS3.out.row 18
        have c19 := HS3.out.get 19 _ rfl
        have f19 := Lib.frozen_of_heap HS3.out.row 19
        have c20 := HS3.out.get 20 _ rfl
        have f20 := Lib.frozen_of_heap HS3.out.row 20
        have c21 := HS3.out.get 21 _ rfl
        have f21 := Lib.frozen_of_heap HS3.out.row 21
        have c22 := HS3.out.get 22 _ rfl
        have f22 := Lib.frozen_of_heap HS3.out.row 22
        have c23 := HS3.out.get 23 _ rfl
        have f23 := Lib.frozen_of_heap HS3.out.row 23
        have c24 := HS3.out.get 24 _ rfl
        have f24 := Lib.frozen_of_heap HS3.out.row 24
        have c25 := HS3.out.get 25 _ rfl
        have f25 := Lib.frozen_of_heap HS3.out.row 25
        have c26 := HS3.out.get 26 _ rfl
        have f26 := Lib.frozen_of_heap HS3.out.row 26
        have c27 := HS3.out.get 27 _ rfl
        have f27 := Lib.frozen_of_heap HS3.out.row 27
        have c28 := HS3.out.get 28 _ rfl
        have f28 := Lib.frozen_of_heap HS3.out.row 28
        have c29 := HS3.out.get 29 _ rfl
        have f29 := Lib.frozen_of_heap HS3.out.row 29
        have c30 := HS3.out.get 30 _ rfl
        have f30 := Lib.frozen_of_heap HS3.out.row 30
        have c31 := HS3.out.get 31 _ rfl
        have f31 := Lib.frozen_of_heap HS3.out.row 31
        have c32 := HS3.out.get 32 _ rfl
        have f32 := Lib.frozen_of_heap HS3.out.row 32
        have c33 := HS3.out.get 33 _ rfl
        have f33 := Lib.frozen_of_heap HS3.out.row 33
        have c34 := HS3.out.get 34 _ rfl
        have f34 := Lib.frozen_of_heap HS3.out.row 34
        have c35 := HS3.out.get 35 _ rfl
        have f35 := Lib.frozen_of_heap HS3.out.row 35
        have e0 := HA3.out 0 _ rfl
        have e1 := HA3.out 1 _ rfl
        have e2 := HA3.out 2 _ rfl
        have e3 := HA3.out 3 _ rfl
        have e4 := HA3.out 4 _ rfl
        have e5 := HA3.out 5 _ rfl
        have e6 := HA3.out 6 _ rfl
        have e7 := HA3.out 7 _ rfl
        have HT : Hid (s.turn c = { ({ ({ ({ s with column := nilC } : Sv) with single := nilC } : Sv) with n := 0 } : Sv) with last := c }) := by
          unfold Hid Sv.turn
          rw [if_neg (by have := HG.out; simpa using this.symm), if_pos HQ.out]
        go_wp2
        go_end0
        refine ⟨rfl, HO3.out.trans ((((set8_only W3 b 11 nilC).trans (set8_only _ b 19 nilC)).trans (set_only _ b 35 _)).trans (set8_only _ b 27 c)), ?_⟩
        rw [HT.out]
        exact (((HS3.out.column nilC).single nilC).count 0).last c
      · have hkb : (s.last.kind == 4) = false := by simp [hk]
        have HQ : Hid (¬ (c.qual ≠ s.last.qual ∨ s.last.kind = 4)) := fun h => h.elim (fun h => h hq) hk
        clear hq hk
        go_wp2
        refine wp_region_later (by kernel_rfl) (by kernel_rfl) ?_
        repeat (go_big_quiet_step ((go_at_call 56; exact HAP.out _ _)))
        refine wpQuiet_nil ?_
        intro W3 hW3
        have hB3 : Below W1.heap.size W1 W3 := by
          obtain ⟨X, rfl⟩ := hW3
          exact later_below W1 X
        have HO3 := Lib.hid ((HB1.out.only (fun k => k = b)).trans (hB3.only _))
        have HS3 := Lib.hid (HS1.out.below hB3)
        have HA3 : Hid (∀ (i : Nat) v, c.cells[i]? = some v → W3.cell? ⟨w.heap.size, i, none⟩ = some v) := fun i v hv => below_cell hB3 (Nat.le_refl _) (HA1.out i v hv)
        have hlt3 := HS3.out.lt
        clear hW3 hB3 j0 j1 j2 j3 j4 j5 j6 j7 l0 l1 l2 l3 l4 l5 l6 l7 HA1 HS1 HB1
        have c27 := HS3.out.get 27 _ rfl
        have f27 := Lib.frozen_of_heap HS3.out.row 27
        have c28 := HS3.out.get 28 _ rfl
        have f28 := Lib.frozen_of_heap HS3.out.row 28
        have c29 := HS3.out.get 29 _ rfl
        have f29 := Lib.frozen_of_heap HS3.out.row 29
        have c30 := HS3.out.get 30 _ rfl
        have f30 := Lib.frozen_of_heap HS3.out.row 30
        have c31 := HS3.out.get 31 _ rfl
        have f31 := Lib.frozen_of_heap HS3.out.row 31
        have c32 := HS3.out.get 32 _ rfl
        have f32 := Lib.frozen_of_heap HS3.out.row 32
        have c33 := HS3.out.get 33 _ rfl
        have f33 := Lib.frozen_of_heap HS3.out.row 33
        have c34 := HS3.out.get 34 _ rfl
        have f34 := Lib.frozen_of_heap HS3.out.row 34
        have e0 := HA3.out 0 _ rfl
        have e1 := HA3.out 1 _ rfl
        have e2 := HA3.out 2 _ rfl
        have e3 := HA3.out 3 _ rfl
        have e4 := HA3.out 4 _ rfl
        have e5 := HA3.out 5 _ rfl
        have e6 := HA3.out 6 _ rfl
        have e7 := HA3.out 7 _ rfl
        have HT : Hid (s.turn c = { s with last := c }) := by
          unfold Hid Sv.turn
          rw [if_neg (by have := HG.out; simpa using this.symm), if_neg HQ.out]
        go_wp2
        go_end0
        refine ⟨rfl, HO3.out.trans (set8_only W3 b 27 c), ?_⟩
        rw [HT.out]
        exact HS3.out.last c
    · rw [decide_eq_false hq] at hsq
      have HQ : Hid (c.qual ≠ s.last.qual ∨ s.last.kind = 4) := .inl hq
      clear hq
      go_wp2
      refine wp_region_later (by kernel_rfl) (by kernel_rfl) ?_
      repeat (go_big_quiet_step ((go_at_call 56; exact HAP.out _ _)))
      refine wpQuiet_nil ?_
      intro W3 hW3
      have hB3 : Below W1.heap.size W1 W3 := by
        obtain ⟨X, rfl⟩ := hW3
        exact later_below W1 X
      have HO3 := Lib.hid ((HB1.out.only (fun k => k = b)).trans (hB3.only _))
      have HS3 := Lib.hid (HS1.out.below hB3)
      have HA3 : Hid (∀ (i : Nat) v, c.cells[i]? = some v → W3.cell? ⟨w.heap.size, i, none⟩ = some v) := fun i v hv => below_cell hB3 (Nat.le_refl _) (HA1.out i v hv)
      have hlt3 := HS3.out.lt
      clear hW3 hB3 j0 j1 j2 j3 j4 j5 j6 j7 l0 l1 l2 l3 l4 l5 l6 l7 HA1 HS1 HB1
      have c11 := HS3.out.get 11 _ rfl
      have f11 := Lib.frozen_of_heap HS3.out.row 11
      have c12 := HS3.out.get 12 _ rfl
      have f12 := Lib.frozen_of_heap HS3.out.row 12
      have c13 := HS3.out.get 13 _ rfl
      have f13 := Lib.frozen_of_heap HS3.out.row 13
      have c14 := HS3.out.get 14 _ rfl
      have f14 := Lib.frozen_of_heap HS3.out.row 14
      have c15 := HS3.out.get 15 _ rfl
      have f15 := Lib.frozen_of_heap HS3.out.row 15
      have c16 := HS3.out.get 16 _ rfl
      have f16 := Lib.frozen_of_heap HS3.out.row 16
      have c17 := HS3.out.get 17 _ rfl
      have f17 := Lib.frozen_of_heap HS3.out.row 17
      have c18 := HS3.out.get 18 _ rfl
      have f18 := Lib.frozen_of_heap HS3.out.row 18
      have c19 := HS3.out.get 19 _ rfl
      have f19 := Lib.frozen_of_heap HS3.out.row 19
      have c20 := HS3.out.get 20 _ rfl
      have f20 := Lib.frozen_of_heap HS3.out.row 20
      have c21 := HS3.out.get 21 _ rfl
      have f21 := Lib.frozen_of_heap HS3.out.row 21
      have c22 := HS3.out.get 22 _ rfl
      have f22 := Lib.frozen_of_heap HS3.out.row 22
      have c23 := HS3.out.get 23 _ rfl
      have f23 := Lib.frozen_of_heap HS3.out.row 23
      have c24 := HS3.out.get 24 _ rfl
      have f24 := Lib.frozen_of_heap HS3.out.row 24
      have c25 := HS3.out.get 25 _ rfl
      have f25 := Lib.frozen_of_heap HS3.out.row 25
      have c26 := HS3.out.get 26 _ rfl
      have f26 := Lib.frozen_of_heap HS3.out.row 26
      have c27 := HS3.out.get 27 _ rfl
      have f27 := Lib.frozen_of_heap HS3.out.row 27
      have c28 := HS3.out.get 28 _ rfl
      have f28 := Lib.frozen_of_heap HS3.out.row 28
      have c29 := HS3.out.get 29 _ rfl
      have f29 := Lib.frozen_of_heap HS3.out.row 29
      have c30 := HS3.out.get 30 _ rfl
      have f30 := Lib.frozen_of_heap HS3.out.row 30
      have c31 := HS3.out.get 31 _ rfl
      have f31 := Lib.frozen_of_heap HS3.out.row 31
      have c32 := HS3.out.get 32 _ rfl
      have f32 := Lib.frozen_of_heap HS3.out.row 32
      have c33 := HS3.out.get 33 _ rfl
      have f33 := Lib.frozen_of_heap HS3.out.row 33
      have c34 := HS3.out.get 34 _ rfl
      have f34 := Lib.frozen_of_heap HS3.out.row 34
      have c35 := HS3.out.get 35 _ rfl
      have f35 := Lib.frozen_of_heap HS3.out.row 35
      have e0 := HA3.out 0 _ rfl
      have e1 := HA3.out 1 _ rfl
      have e2 := HA3.out 2 _ rfl
      have e3 := HA3.out 3 _ rfl
      have e4 := HA3.out 4 _ rfl
      have e5 := HA3.out 5 _ rfl
      have e6 := HA3.out 6 _ rfl
      have e7 := HA3.out 7 _ rfl
      have HT : Hid (s.turn c = { ({ ({ ({ s with column := nilC } : Sv) with single := nilC } : Sv) with n := 0 } : Sv) with last := c }) := by
        unfold Hid Sv.turn
        rw [if_neg (by have := HG.out; simpa using this.symm), if_pos HQ.out]
      go_wp2
      go_end0
      refine ⟨rfl, HO3.out.trans ((((set8_only W3 b 11 nilC).trans (set8_only _ b 19 nilC)).trans (set_only _ b 35 _)).trans (set8_only _ b 27 c)), ?_⟩
      rw [HT.out]
      exact (((HS3.out.column nilC).single nilC).count 0).last c
end Go.Proofs.YtndmlldaebdnmaaDoor
