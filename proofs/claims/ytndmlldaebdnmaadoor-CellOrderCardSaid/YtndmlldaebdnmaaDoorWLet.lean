/-
  (*sieve).let: the sieve's step.
-/
import Derived.Test.YtndmlldaebdnmaaDoorWTurn
namespace Go.Proofs.YtndmlldaebdnmaaDoor
open Go.RowKit

set_option maxHeartbeats 1500000 in
set_option maxRecDepth 20000 in
theorem let_calls (b : Nat) (v life now : Int) (s : Sv) (c : Cell) (w : World) (h : SvAt w b v life now s) (hk : 1 ≤ c.kind ∧ c.kind ≤ 4) (hn : 0 ≤ (s.turn c).n ∧ (s.turn c).n ≤ 1000000) (hw : life = 0 ∨ wrap64 (now - c.time) = now - c.time) :
    Calls Tryd.prog 30 #[.pointer (some ⟨b, 0, none⟩), c.v] w fun e w' => e = .returned (.bool (s.lets v life now c)) ∧ Only (fun k => k = b) w w' ∧ SvAt w' b v life now (s.next life now c) := by
  obtain ⟨hB, ca⟩ := one_box w c.cells 31
  obtain ⟨W0, hW0⟩ : ∃ W0, W0 = w.alloc (.cells c.cells 31) := ⟨_, rfl⟩
  have htc := Lib.hid (turn_calls b v life now s c W0 (by rw [hW0]; exact h.below hB))
  rw [← hW0] at hB ca
  have HB := Lib.hid hB
  have HA := Lib.hid ca
  have HW0 := Lib.hid hW0
  have HK := Lib.hid hk
  have HN := Lib.hid hn
  have HWR := Lib.hid hw
  have hne : ¬ w.heap.size = b := by have := h.lt; omega
  have HLS := Lib.hid (show s.lets v life now c = (decide (c.kind = 1) && (!(s.turn c).gone life now c && decide ((s.turn c).n + 1 ≤ v))) from rfl)
  clear ca hB hW0 h hk hn hw
  go_enter Tryd.func30, Tryd.ntmps30
  go_wp2_with fail
  rw [← HW0.out]
  refine htc.out.mono ?_
  rintro e w1 ⟨rfl, ho1, hs1⟩
  clear htc HW0
  have HO1 := Lib.hid ((HB.out.only (fun k => k = b)).trans ho1)
  have HA1 : Hid (∀ (i : Nat) x, c.cells[i]? = some x → w1.cell? ⟨w.heap.size, i, none⟩ = some x) := fun i x hx => ho1.cell (HA.out i x hx) hne
  obtain ⟨t, ht⟩ : ∃ t, t = s.turn c := ⟨_, rfl⟩
  rw [← ht] at hs1 HN HLS
  have HTT := Lib.hid ht
  have HS1 := Lib.hid hs1
  have hlt1 := HS1.out.lt
  have e0 := HA1.out 0 _ rfl
  have e1 := HA1.out 1 _ rfl
  have e2 := HA1.out 2 _ rfl
  have e3 := HA1.out 3 _ rfl
  have e4 := HA1.out 4 _ rfl
  have e5 := HA1.out 5 _ rfl
  have e6 := HA1.out 6 _ rfl
  have e7 := HA1.out 7 _ rfl
  have hltc := lt_of_cell e0
  clear ht hs1 ho1 HA HB
  by_cases hk4 : c.kind = 4
  · have k4 : (c.kind == 4) = true := by simp [hk4]
    have HLF : Hid (s.lets v life now c = false) := by unfold Hid; rw [HLS.out, decide_eq_false (by omega), Bool.false_and]
    have HKK := Lib.hid hk4
    clear hk4
    have c3 := HS1.out.get 3 _ rfl
    have f3 := Lib.frozen_of_heap HS1.out.row 3
    have c4 := HS1.out.get 4 _ rfl
    have f4 := Lib.frozen_of_heap HS1.out.row 4
    have c5 := HS1.out.get 5 _ rfl
    have f5 := Lib.frozen_of_heap HS1.out.row 5
    have c6 := HS1.out.get 6 _ rfl
    have f6 := Lib.frozen_of_heap HS1.out.row 6
    have c7 := HS1.out.get 7 _ rfl
    have f7 := Lib.frozen_of_heap HS1.out.row 7
    have c8 := HS1.out.get 8 _ rfl
    have f8 := Lib.frozen_of_heap HS1.out.row 8
    have c9 := HS1.out.get 9 _ rfl
    have f9 := Lib.frozen_of_heap HS1.out.row 9
    have c10 := HS1.out.get 10 _ rfl
    have f10 := Lib.frozen_of_heap HS1.out.row 10
    by_cases hf : t.family.kind = 0
    · have hfb : (t.family.kind == 0) = true := by simp [hf]
      have HX : Hid (s.next life now c = { t with family := c }) := by
        unfold Hid Sv.next
        rw [← HTT.out]
        simp only
        rw [if_pos HKK.out, if_pos hf]
      clear hf
      go_wp2
      go_ret
      exact ⟨ret_bool HLF.out.symm, HO1.out.trans (set8_only w1 b 3 c), by rw [HX.out]; exact HS1.out.family c⟩
    · have hfb : (t.family.kind == 0) = false := by simp [hf]
      have HX : Hid (s.next life now c = t) := by
        unfold Hid Sv.next
        rw [← HTT.out]
        simp only
        rw [if_pos HKK.out, if_neg hf]
      clear hf
      go_wp2
      go_ret
      exact ⟨ret_bool HLF.out.symm, HO1.out, by rw [HX.out]; exact HS1.out⟩
  have k4 : (c.kind == 4) = false := by simp [hk4]
  by_cases hk3 : c.kind = 3
  · have k3 : (c.kind == 3) = true := by simp [hk3]
    have HLF : Hid (s.lets v life now c = false) := by unfold Hid; rw [HLS.out, decide_eq_false (by omega), Bool.false_and]
    have HKK := Lib.hid hk3
    clear hk3
    have c11 := HS1.out.get 11 _ rfl
    have f11 := Lib.frozen_of_heap HS1.out.row 11
    have c12 := HS1.out.get 12 _ rfl
    have f12 := Lib.frozen_of_heap HS1.out.row 12
    have c13 := HS1.out.get 13 _ rfl
    have f13 := Lib.frozen_of_heap HS1.out.row 13
    have c14 := HS1.out.get 14 _ rfl
    have f14 := Lib.frozen_of_heap HS1.out.row 14
    have c15 := HS1.out.get 15 _ rfl
    have f15 := Lib.frozen_of_heap HS1.out.row 15
    have c16 := HS1.out.get 16 _ rfl
    have f16 := Lib.frozen_of_heap HS1.out.row 16
    have c17 := HS1.out.get 17 _ rfl
    have f17 := Lib.frozen_of_heap HS1.out.row 17
    have c18 := HS1.out.get 18 _ rfl
    have f18 := Lib.frozen_of_heap HS1.out.row 18
    by_cases hf : t.column.kind = 0
    · have hfb : (t.column.kind == 0) = true := by simp [hf]
      have HX : Hid (s.next life now c = { t with column := c }) := by
        unfold Hid Sv.next
        rw [← HTT.out]
        simp only
        rw [if_neg hk4, if_pos HKK.out, if_pos hf]
      clear hf
      go_wp2
      go_ret
      exact ⟨ret_bool HLF.out.symm, HO1.out.trans (set8_only w1 b 11 c), by rw [HX.out]; exact HS1.out.column c⟩
    · have hfb : (t.column.kind == 0) = false := by simp [hf]
      have HX : Hid (s.next life now c = t) := by
        unfold Hid Sv.next
        rw [← HTT.out]
        simp only
        rw [if_neg hk4, if_pos HKK.out, if_neg hf]
      clear hf
      go_wp2
      go_ret
      exact ⟨ret_bool HLF.out.symm, HO1.out, by rw [HX.out]; exact HS1.out⟩
  have k3 : (c.kind == 3) = false := by simp [hk3]
  by_cases hk2 : c.kind = 2
  · have k2 : (c.kind == 2) = true := by simp [hk2]
    have HLF : Hid (s.lets v life now c = false) := by unfold Hid; rw [HLS.out, decide_eq_false (by omega), Bool.false_and]
    have HKK := Lib.hid hk2
    clear hk2
    have c19 := HS1.out.get 19 _ rfl
    have f19 := Lib.frozen_of_heap HS1.out.row 19
    have c20 := HS1.out.get 20 _ rfl
    have f20 := Lib.frozen_of_heap HS1.out.row 20
    have c21 := HS1.out.get 21 _ rfl
    have f21 := Lib.frozen_of_heap HS1.out.row 21
    have c22 := HS1.out.get 22 _ rfl
    have f22 := Lib.frozen_of_heap HS1.out.row 22
    have c23 := HS1.out.get 23 _ rfl
    have f23 := Lib.frozen_of_heap HS1.out.row 23
    have c24 := HS1.out.get 24 _ rfl
    have f24 := Lib.frozen_of_heap HS1.out.row 24
    have c25 := HS1.out.get 25 _ rfl
    have f25 := Lib.frozen_of_heap HS1.out.row 25
    have c26 := HS1.out.get 26 _ rfl
    have f26 := Lib.frozen_of_heap HS1.out.row 26
    have HX : Hid (s.next life now c = { t with single := c }) := by
      unfold Hid Sv.next
      rw [← HTT.out]
      simp only
      rw [if_neg hk4, if_neg hk3, if_pos HKK.out]
    go_wp2
    go_ret
    exact ⟨ret_bool HLF.out.symm, HO1.out.trans (set8_only w1 b 19 c), by rw [HX.out]; exact HS1.out.single c⟩
  have k2 : (c.kind == 2) = false := by simp [hk2]
  have h1 : c.kind = 1 := by have := HK.out; omega
  have H1 := Lib.hid h1
  have H4 := Lib.hid hk4
  have H3 := Lib.hid hk3
  have H2 := Lib.hid hk2
  clear hk4 hk3 hk2 h1
  have j0 := later_cell e0
  have j1 := later_cell e1
  have j2 := later_cell e2
  have j3 := later_cell e3
  have j4 := later_cell e4
  have j5 := later_cell e5
  have j6 := later_cell e6
  have j7 := later_cell e7
  have lv := later_cell (HS1.out.get 0 _ rfl)
  have l3 := later_cell (HS1.out.get 3 _ rfl)
  have l4 := later_cell (HS1.out.get 4 _ rfl)
  have l5 := later_cell (HS1.out.get 5 _ rfl)
  have l6 := later_cell (HS1.out.get 6 _ rfl)
  have l7 := later_cell (HS1.out.get 7 _ rfl)
  have l8 := later_cell (HS1.out.get 8 _ rfl)
  have l9 := later_cell (HS1.out.get 9 _ rfl)
  have l10 := later_cell (HS1.out.get 10 _ rfl)
  have l11 := later_cell (HS1.out.get 11 _ rfl)
  have l12 := later_cell (HS1.out.get 12 _ rfl)
  have l13 := later_cell (HS1.out.get 13 _ rfl)
  have l14 := later_cell (HS1.out.get 14 _ rfl)
  have l15 := later_cell (HS1.out.get 15 _ rfl)
  have l16 := later_cell (HS1.out.get 16 _ rfl)
  have l17 := later_cell (HS1.out.get 17 _ rfl)
  have l18 := later_cell (HS1.out.get 18 _ rfl)
  have l19 := later_cell (HS1.out.get 19 _ rfl)
  have l20 := later_cell (HS1.out.get 20 _ rfl)
  have l21 := later_cell (HS1.out.get 21 _ rfl)
  have l22 := later_cell (HS1.out.get 22 _ rfl)
  have l23 := later_cell (HS1.out.get 23 _ rfl)
  have l24 := later_cell (HS1.out.get 24 _ rfl)
  have l25 := later_cell (HS1.out.get 25 _ rfl)
  have l26 := later_cell (HS1.out.get 26 _ rfl)
  have HCV : Hid (∀ (d : Cell) (tt : Int) (r : Bool) (X : World), coversB d tt = r → Calls Tryd.prog 43 #[d.v, .int .i64 tt] (w1.later X) fun e w'' => e = .returned (.bool r) ∧ ∃ Y, w'' = w1.later Y) := fun d tt r X hr => calls_later (by
    have := covers_calls d tt (w1.later X)
    rw [hr] at this
    exact this)
  have HLV : Hid (∀ (r : Bool) (X : World), livesB life now c = r → Calls Tryd.prog 44 #[.pointer (some ⟨b, 0, none⟩), c.v] (w1.later X) fun e w'' => e = .returned (.bool r) ∧ ∃ Y, w'' = w1.later Y) := fun r X hr => calls_later (by
    have := lives_calls b v life now t c (w1.later X) (HS1.out.below (later_below w1 X)) HWR.out
    rw [hr] at this
    exact this)
  cases g1 : coversB t.family c.time with
  | true =>
    have HGN : Hid (t.gone life now c = true) := by unfold Hid Sv.gone; rw [g1]; rfl
    go_wp2
    refine wp_region_later (by kernel_rfl) (by kernel_rfl) ?_
    repeat (go_big_quiet_step ((first | (go_at_call 43; exact HCV.out _ _ _ _ (by assumption)) | (go_at_call 44; exact HLV.out _ _ (by assumption)))))
    refine wpQuiet_nil ?_
    intro W3 hW3
    have hB3 : Below w1.heap.size w1 W3 := by
      obtain ⟨X, rfl⟩ := hW3
      exact later_below w1 X
    have HO3 := Lib.hid (HO1.out.trans (hB3.only _))
    have HS3 := Lib.hid (HS1.out.below hB3)
    have hlt3 := HS3.out.lt
    clear hW3 hB3 j0 j1 j2 j3 j4 j5 j6 j7 lv l3 l4 l5 l6 l7 l8 l9 l10 l11 l12 l13 l14 l15 l16 l17 l18 l19 l20 l21 l22 l23 l24 l25 l26 e0 e1 e2 e3 e4 e5 e6 e7
    have HX : Hid (s.next life now c = t) := by
      unfold Hid Sv.next
      rw [← HTT.out]
      simp only
      rw [if_neg H4.out, if_neg H3.out, if_neg H2.out, if_pos HGN.out]
    have HLF : Hid (s.lets v life now c = false) := by unfold Hid; rw [HLS.out, HGN.out]; simp
    go_wp2
    go_ret
    exact ⟨ret_bool HLF.out.symm, HO3.out, by rw [HX.out]; exact HS3.out⟩
  | false =>
    cases g2 : coversB t.column c.time with
    | true =>
      have HGN : Hid (t.gone life now c = true) := by unfold Hid Sv.gone; rw [g1, g2]; rfl
      go_wp2
      refine wp_region_later (by kernel_rfl) (by kernel_rfl) ?_
      repeat (go_big_quiet_step ((first | (go_at_call 43; exact HCV.out _ _ _ _ (by assumption)) | (go_at_call 44; exact HLV.out _ _ (by assumption)))))
      refine wpQuiet_nil ?_
      intro W3 hW3
      have hB3 : Below w1.heap.size w1 W3 := by
        obtain ⟨X, rfl⟩ := hW3
        exact later_below w1 X
      have HO3 := Lib.hid (HO1.out.trans (hB3.only _))
      have HS3 := Lib.hid (HS1.out.below hB3)
      have hlt3 := HS3.out.lt
      clear hW3 hB3 j0 j1 j2 j3 j4 j5 j6 j7 lv l3 l4 l5 l6 l7 l8 l9 l10 l11 l12 l13 l14 l15 l16 l17 l18 l19 l20 l21 l22 l23 l24 l25 l26 e0 e1 e2 e3 e4 e5 e6 e7
      have HX : Hid (s.next life now c = t) := by
        unfold Hid Sv.next
        rw [← HTT.out]
        simp only
        rw [if_neg H4.out, if_neg H3.out, if_neg H2.out, if_pos HGN.out]
      have HLF : Hid (s.lets v life now c = false) := by unfold Hid; rw [HLS.out, HGN.out]; simp
      go_wp2
      go_ret
      exact ⟨ret_bool HLF.out.symm, HO3.out, by rw [HX.out]; exact HS3.out⟩
    | false =>
      by_cases g3 : t.single.kind ≠ 0 ∧ t.single.time = c.time
      · have g4 : (t.single.kind != 0) = true := by simp [g3.1]
        have g5 : (t.single.time == c.time) = true := by simp [g3.2]
        have HGN : Hid (t.gone life now c = true) := by unfold Hid Sv.gone; rw [g1, g2, decide_eq_true g3.1, decide_eq_true g3.2]; rfl
        clear g3
        go_wp2
        refine wp_region_later (by kernel_rfl) (by kernel_rfl) ?_
        repeat (go_big_quiet_step ((first | (go_at_call 43; exact HCV.out _ _ _ _ (by assumption)) | (go_at_call 44; exact HLV.out _ _ (by assumption)))))
        refine wpQuiet_nil ?_
        intro W3 hW3
        have hB3 : Below w1.heap.size w1 W3 := by
          obtain ⟨X, rfl⟩ := hW3
          exact later_below w1 X
        have HO3 := Lib.hid (HO1.out.trans (hB3.only _))
        have HS3 := Lib.hid (HS1.out.below hB3)
        have hlt3 := HS3.out.lt
        clear hW3 hB3 j0 j1 j2 j3 j4 j5 j6 j7 lv l3 l4 l5 l6 l7 l8 l9 l10 l11 l12 l13 l14 l15 l16 l17 l18 l19 l20 l21 l22 l23 l24 l25 l26 e0 e1 e2 e3 e4 e5 e6 e7
        have HX : Hid (s.next life now c = t) := by
          unfold Hid Sv.next
          rw [← HTT.out]
          simp only
          rw [if_neg H4.out, if_neg H3.out, if_neg H2.out, if_pos HGN.out]
        have HLF : Hid (s.lets v life now c = false) := by unfold Hid; rw [HLS.out, HGN.out]; simp
        go_wp2
        go_ret
        exact ⟨ret_bool HLF.out.symm, HO3.out, by rw [HX.out]; exact HS3.out⟩
      · have HG3 : Hid ((decide (t.single.kind ≠ 0) && decide (t.single.time = c.time)) = false) := by
          cases e : (decide (t.single.kind ≠ 0) && decide (t.single.time = c.time)) with
          | false => rfl
          | true =>
            rw [Bool.and_eq_true, decide_eq_true_eq, decide_eq_true_eq] at e
            exact absurd e g3
        have g4 : (t.single.kind != 0) = false ∨ ((t.single.kind != 0) = true ∧ (t.single.time == c.time) = false) := by
          by_cases g5 : t.single.kind = 0
          · exact .inl (by simp [g5])
          · refine .inr ⟨by simp [g5], ?_⟩
            simp only [beq_eq_false_iff_ne, ne_eq]
            exact fun h => g3 ⟨g5, h⟩
        clear g3
        cases g6 : livesB life now c with
        | false =>
          have HGN : Hid (t.gone life now c = true) := by unfold Hid Sv.gone; rw [g1, g2, HG3.out, g6]; rfl
          rcases g4 with g4 | ⟨g4, g5⟩
          · go_wp2
            refine wp_region_later (by kernel_rfl) (by kernel_rfl) ?_
            repeat (go_big_quiet_step ((first | (go_at_call 43; exact HCV.out _ _ _ _ (by assumption)) | (go_at_call 44; exact HLV.out _ _ (by assumption)))))
            refine wpQuiet_nil ?_
            intro W3 hW3
            have hB3 : Below w1.heap.size w1 W3 := by
              obtain ⟨X, rfl⟩ := hW3
              exact later_below w1 X
            have HO3 := Lib.hid (HO1.out.trans (hB3.only _))
            have HS3 := Lib.hid (HS1.out.below hB3)
            have hlt3 := HS3.out.lt
            clear hW3 hB3 j0 j1 j2 j3 j4 j5 j6 j7 lv l3 l4 l5 l6 l7 l8 l9 l10 l11 l12 l13 l14 l15 l16 l17 l18 l19 l20 l21 l22 l23 l24 l25 l26 e0 e1 e2 e3 e4 e5 e6 e7
            have HX : Hid (s.next life now c = t) := by
              unfold Hid Sv.next
              rw [← HTT.out]
              simp only
              rw [if_neg H4.out, if_neg H3.out, if_neg H2.out, if_pos HGN.out]
            have HLF : Hid (s.lets v life now c = false) := by unfold Hid; rw [HLS.out, HGN.out]; simp
            go_wp2
            go_ret
            exact ⟨ret_bool HLF.out.symm, HO3.out, by rw [HX.out]; exact HS3.out⟩
          · go_wp2
            refine wp_region_later (by kernel_rfl) (by kernel_rfl) ?_
            repeat (go_big_quiet_step ((first | (go_at_call 43; exact HCV.out _ _ _ _ (by assumption)) | (go_at_call 44; exact HLV.out _ _ (by assumption)))))
            refine wpQuiet_nil ?_
            intro W3 hW3
            have hB3 : Below w1.heap.size w1 W3 := by
              obtain ⟨X, rfl⟩ := hW3
              exact later_below w1 X
            have HO3 := Lib.hid (HO1.out.trans (hB3.only _))
            have HS3 := Lib.hid (HS1.out.below hB3)
            have hlt3 := HS3.out.lt
            clear hW3 hB3 j0 j1 j2 j3 j4 j5 j6 j7 lv l3 l4 l5 l6 l7 l8 l9 l10 l11 l12 l13 l14 l15 l16 l17 l18 l19 l20 l21 l22 l23 l24 l25 l26 e0 e1 e2 e3 e4 e5 e6 e7
            have HX : Hid (s.next life now c = t) := by
              unfold Hid Sv.next
              rw [← HTT.out]
              simp only
              rw [if_neg H4.out, if_neg H3.out, if_neg H2.out, if_pos HGN.out]
            have HLF : Hid (s.lets v life now c = false) := by unfold Hid; rw [HLS.out, HGN.out]; simp
            go_wp2
            go_ret
            exact ⟨ret_bool HLF.out.symm, HO3.out, by rw [HX.out]; exact HS3.out⟩
        | true =>
          have HGN : Hid (t.gone life now c = false) := by unfold Hid Sv.gone; rw [g1, g2, HG3.out, g6]; rfl
          rcases g4 with g4 | ⟨g4, g5⟩
          · go_wp2
            refine wp_region_later (by kernel_rfl) (by kernel_rfl) ?_
            repeat (go_big_quiet_step ((first | (go_at_call 43; exact HCV.out _ _ _ _ (by assumption)) | (go_at_call 44; exact HLV.out _ _ (by assumption)))))
            refine wpQuiet_nil ?_
            intro W3 hW3
            have hB3 : Below w1.heap.size w1 W3 := by
              obtain ⟨X, rfl⟩ := hW3
              exact later_below w1 X
            have HO3 := Lib.hid (HO1.out.trans (hB3.only _))
            have HS3 := Lib.hid (HS1.out.below hB3)
            have hlt3 := HS3.out.lt
            clear hW3 hB3 j0 j1 j2 j3 j4 j5 j6 j7 lv l3 l4 l5 l6 l7 l8 l9 l10 l11 l12 l13 l14 l15 l16 l17 l18 l19 l20 l21 l22 l23 l24 l25 l26 e0 e1 e2 e3 e4 e5 e6 e7
            have HX : Hid (s.next life now c = { t with n := t.n + 1 }) := by
              unfold Hid Sv.next
              rw [← HTT.out]
              simp only
              rw [if_neg H4.out, if_neg H3.out, if_neg H2.out, if_neg (by rw [HGN.out]; decide)]
            have HLF : Hid (s.lets v life now c = decide (t.n + 1 ≤ v)) := by unfold Hid; rw [HLS.out, HGN.out, decide_eq_true H1.out]; simp
            have c35 := HS3.out.get 35 _ rfl
            have f35 := Lib.frozen_of_heap HS3.out.row 35
            have c0 := HS3.out.get 0 _ rfl
            have hwn : wrap64 (t.n + 1) = t.n + 1 := by have := HN.out; unfold wrap64; omega
            go_wp2
            go_quiet (fail)
            go_wp2
            go_ret
            exact ⟨ret_bool HLF.out.symm, HO3.out.trans ((set_only W3 b 35 _).trans ((drewN_below _ nq).only _)), by rw [HX.out]; exact (HS3.out.count _).below (drewN_below _ nq)⟩
          · go_wp2
            refine wp_region_later (by kernel_rfl) (by kernel_rfl) ?_
            repeat (go_big_quiet_step ((first | (go_at_call 43; exact HCV.out _ _ _ _ (by assumption)) | (go_at_call 44; exact HLV.out _ _ (by assumption)))))
            refine wpQuiet_nil ?_
            intro W3 hW3
            have hB3 : Below w1.heap.size w1 W3 := by
              obtain ⟨X, rfl⟩ := hW3
              exact later_below w1 X
            have HO3 := Lib.hid (HO1.out.trans (hB3.only _))
            have HS3 := Lib.hid (HS1.out.below hB3)
            have hlt3 := HS3.out.lt
            clear hW3 hB3 j0 j1 j2 j3 j4 j5 j6 j7 lv l3 l4 l5 l6 l7 l8 l9 l10 l11 l12 l13 l14 l15 l16 l17 l18 l19 l20 l21 l22 l23 l24 l25 l26 e0 e1 e2 e3 e4 e5 e6 e7
            have HX : Hid (s.next life now c = { t with n := t.n + 1 }) := by
              unfold Hid Sv.next
              rw [← HTT.out]
              simp only
              rw [if_neg H4.out, if_neg H3.out, if_neg H2.out, if_neg (by rw [HGN.out]; decide)]
            have HLF : Hid (s.lets v life now c = decide (t.n + 1 ≤ v)) := by unfold Hid; rw [HLS.out, HGN.out, decide_eq_true H1.out]; simp
            have c35 := HS3.out.get 35 _ rfl
            have f35 := Lib.frozen_of_heap HS3.out.row 35
            have c0 := HS3.out.get 0 _ rfl
            have hwn : wrap64 (t.n + 1) = t.n + 1 := by have := HN.out; unfold wrap64; omega
            go_wp2
            go_quiet (fail)
            go_wp2
            go_ret
            exact ⟨ret_bool HLF.out.symm, HO3.out.trans ((set_only W3 b 35 _).trans ((drewN_below _ nq).only _)), by rw [HX.out]; exact (HS3.out.count _).below (drewN_below _ nq)⟩
end Go.Proofs.YtndmlldaebdnmaaDoor
