/-
  joistlaw06.hit; append of one cell as a step of a region that draws.
-/
import Derived.Test.YtndmlldaebdnmaaDoorWLaw
namespace Go.Proofs.YtndmlldaebdnmaaDoor
open Go.RowKit

theorem int_eq (a b : Int) : (a == b) = decide (a = b) := by
  rw [Bool.eq_iff_iff, beq_iff_eq, decide_eq_true_eq]
set_option maxHeartbeats 2000000 in
set_option maxRecDepth 20000 in
theorem hit_calls (d c : Cell) (w : World) : Calls Tryd.prog 18 #[d.v, c.v] w fun e w' => e = .returned (.bool (hitL d c)) ∧ Below w.heap.size w w' := by
  obtain ⟨hB, ca, cb⟩ := two_boxes w d.cells c.cells 31 31
  have HB := Lib.hid hB
  clear hB ca cb
  have x1 := str_dec d.row c.row
  have x2 := str_dec d.fam c.fam
  have x3 := str_dec c.qual d.qual
  have x4 := int_eq c.time d.time
  by_cases hg : d.row = c.row ∧ d.fam = c.fam
  case neg =>
    have HE : Hid (hitL d c = false) := by
      unfold Hid hitL
      rw [if_pos]
      cases e : groupB d c with
      | false => rfl
      | true => exact absurd (group_iff.1 e) hg
    have y : ((d.row.toList == c.row.toList) = true ∧ (d.fam.toList == c.fam.toList) = false) ∨ (d.row.toList == c.row.toList) = false := by
      by_cases h1 : d.row = c.row
      · exact .inl ⟨by rw [x1, decide_eq_true h1], by rw [x2]; exact decide_eq_false (fun h2 => hg ⟨h1, h2⟩)⟩
      · exact .inr (by rw [x1, decide_eq_false h1])
    clear x1 x2 x3 x4 hg
    rcases y with ⟨y1, y2⟩ | y1
    all_goals
      go_enter Tryd.func18, Tryd.ntmps18
      go_wp2
      go_ret
      exact ⟨ret_bool (by rw [HE.out]), HB.out⟩
  obtain ⟨h1, h2⟩ := hg
  have HG : Hid (groupB d c = true) := group_iff.2 ⟨h1, h2⟩
  rw [decide_eq_true h1] at x1
  rw [decide_eq_true h2] at x2
  clear h1 h2
  by_cases k4 : d.kind = 4
  · have HE : Hid (hitL d c = decide (c.time ≤ d.time)) := by
      unfold Hid hitL
      rw [HG.out, if_neg (by decide), if_pos k4]
    have e4 : (d.kind == 4) = true := by rw [beq_iff_eq]; exact k4
    clear k4 x3 x4
    go_enter Tryd.func18, Tryd.ntmps18
    go_wp2
    go_ret
    exact ⟨ret_bool (by rw [HE.out]), HB.out⟩
  have e4 : (d.kind == 4) = false := by rw [beq_eq_false_iff_ne]; exact k4
  by_cases k3 : d.kind = 3
  · have HE : Hid (hitL d c = (decide (c.qual = d.qual) && decide (c.time ≤ d.time))) := by
      unfold Hid hitL
      rw [HG.out, if_neg (by decide), if_neg k4, if_pos k3]
    have e3 : (d.kind == 3) = true := by rw [beq_iff_eq]; exact k3
    clear k4 k3 x4
    by_cases hq : c.qual = d.qual
    · rw [decide_eq_true hq] at x3
      have HE2 : Hid (hitL d c = decide (c.time ≤ d.time)) := by unfold Hid; rw [HE.out, decide_eq_true hq, Bool.true_and]
      clear hq
      go_enter Tryd.func18, Tryd.ntmps18
      go_wp2
      go_ret
      exact ⟨ret_bool (by rw [HE2.out]), HB.out⟩
    · rw [decide_eq_false hq] at x3
      have HE2 : Hid (hitL d c = false) := by unfold Hid; rw [HE.out, decide_eq_false hq, Bool.false_and]
      clear hq
      go_enter Tryd.func18, Tryd.ntmps18
      go_wp2
      go_ret
      exact ⟨ret_bool (by rw [HE2.out]), HB.out⟩
  · have HE : Hid (hitL d c = (decide (c.qual = d.qual) && decide (c.time = d.time))) := by
      unfold Hid hitL
      rw [HG.out, if_neg (by decide), if_neg k4, if_neg k3]
    have e3 : (d.kind == 3) = false := by rw [beq_eq_false_iff_ne]; exact k3
    clear k4 k3
    by_cases hq : c.qual = d.qual
    · rw [decide_eq_true hq] at x3
      have HE2 : Hid (hitL d c = (c.time == d.time)) := by unfold Hid; rw [HE.out, decide_eq_true hq, Bool.true_and, x4]
      clear hq x4
      go_enter Tryd.func18, Tryd.ntmps18
      go_wp2
      go_ret
      exact ⟨ret_bool (by rw [HE2.out]), HB.out⟩
    · rw [decide_eq_false hq] at x3
      have HE2 : Hid (hitL d c = false) := by unfold Hid; rw [HE.out, decide_eq_false hq, Bool.false_and]
      clear hq x4
      go_enter Tryd.func18, Tryd.ntmps18
      go_wp2
      go_ret
      exact ⟨ret_bool (by rw [HE2.out]), HB.out⟩
theorem copy_all (A : Option Addr) (n ca : Nat) (l : List Cell) (w : World) (hx : RdC w A n l) (hA : A = none → ca = 0) (hn : n ≤ 1466015503700) :
    Calls Tryd.prog 14 #[.slice A n ca] w (OutC l w) := by
  obtain ⟨i0, hi, hz0, hz1, hz2⟩ := info_parts infoCell
  have hb : Below w.heap.size w (w.alloc (.cells #[] 31)) := (Below.refl _ _).alloc (Nat.le_refl _) _
  have hown := Own.lit 31 8 Cell.l w w.heap.size (Nat.le_refl _)
  have HX := Lib.hid (hx.below hb)
  clear hx
  go_enter Tryd.func14, Tryd.ntmps14
  go_wp2_with (at_builtin; refine append_all rfl (.tmp 5) (.tmp 6) 22 rfl i0 _ 96 Tryd.underlying22 hi hz0 hz1 hz2 rfl (by omega) Cell.l_len Cell.l_one rfl hown rfl hA HX.out (by omega) (by unfold maxLen; omega) (by simp) ?_; intro A' cap' w' h1 h2 h3 h4)
  go_ret
  exact ⟨A', 0 + n, cap', by simp, by simpa using h1, hb.trans ((h2.below (B := w.heap.size) (by simp) (fun i hi => by injection hi with hi; injection hi with hi; omega)))⟩
/-- append(out, c) as a step of a region that draws. -/
theorem step_app_cell {w : World} {ops : Array Oper} {o : Oper} {a : Act} {K : Act → World → Prop} {Q : Exit → Act → World → Prop} {E' : Prop} (hgd : o.guard = none) (s x : Operand)
    (ho : o.op = .call { callee := .builtin .append, args := #[s, x], argTypes := #[22, 22] }) (c : Cell)
    {base n cap nb : Nat} {A : Option Addr} {xs : List Cell} (hs : a.eval s = .slice A n cap) (hown : OwnC w base A n cap xs) (hx : a.eval x = .slice (some ⟨nb, 0, none⟩) 1 1) (hnb : ∀ j u, c.l[j]? = some u → w.cell? ⟨nb, j, none⟩ = some u) (hn : n ≤ 1466015503700) (hbase : base ≤ w.heap.size)
    (h : ∀ g cap' w', OwnC w' base (some ⟨g, 0, none⟩) (n + 1) cap' (xs ++ [c]) → Only (fun k => A = some ⟨k, 0, none⟩) w w' → K (a.put o.dst (.slice (some ⟨g, 0, none⟩) (n + 1) cap')) w') : if Region.wanted o (yielded ops a.tmps) = true then Oper.wp Tryd.prog o a w K Q else E' := by
  obtain ⟨i0, hi, hz0, hz1, hz2⟩ := info_parts infoCell
  exact step_append_one hgd s x 22 ho i0 _ 96 Tryd.underlying22 hi hz0 hz1 hz2 rfl (by omega) Cell.l_len (c := c) hs hown hx hnb c.l_one (by omega) (by unfold maxLen; omega) hbase (fun g cap' w' h1 h2 _ _ => h g cap' w' h1 h2)
end Go.Proofs.YtndmlldaebdnmaaDoor
