/-
  CellSame, walked: it answers true and turns nothing that was there.
-/
import Derived.Test.YtndmlldaebdnmaaDoorWLaw
namespace Go.Proofs.YtndmlldaebdnmaaDoor
open Go.RowKit

set_option maxHeartbeats 2000000 in
set_option maxRecDepth 20000 in
theorem lsame_calls (a : Option Addr) (n ca : Nat) (xs : List Cell) (v life now later : Int) (w : World) (hx : ArgC w a n ca xs) (hv : isInt v) (hlife : isInt life) (hnow : isInt now) (hlater : isInt later) (hT : Lib.Utf8Tabs 0 1 w) :
    Calls Tryd.prog 4 #[.slice a n ca, .int .i64 v, .int .i64 life, .int .i64 now, .int .i64 later] w fun e w' => e = .returned (.bool true) ∧ Below w.heap.size w w' := by
  have HX := Lib.hid hx
  have HT := Lib.hid hT
  have hal := Lib.hid (alive_calls w hT)
  clear hx hT
  go_enter Tryd.func4, Tryd.ntmps4
  go_wp2_with fail
  refine hal.out.mono ?_
  clear hal
  rintro e w1 ⟨rfl, hb1⟩
  have hlong := Lib.hid (longl_calls a n ca xs w1 (HX.out.1.below hb1) (by have := HX.out.2.2.2; omega))
  have HB1 := Lib.hid hb1
  clear hb1
  go_wp2_with fail
  refine hlong.out.mono ?_
  clear hlong
  rintro e w2 ⟨rfl, hw⟩
  obtain rfl : w1 = w2 := hw.symm
  cases hl : longC xs 60 with
  | true =>
    go_wp2
    go_ret
    exact ⟨rfl, HB1.out⟩
  | false =>
  have hn : n ≤ 60 := by have := long_few hl; rw [HX.out.1.len]; exact this
  clear hl
  by_cases g1 : now < 0
  · go_wp2
    go_ret
    exact ⟨rfl, HB1.out⟩
  by_cases g2 : 1125899906842624 < now
  · go_wp2
    go_ret
    exact ⟨rfl, HB1.out⟩
  by_cases g3 : later < now
  · go_wp2
    go_ret
    exact ⟨rfl, HB1.out⟩
  by_cases g4 : 1125899906842624 < later
  · go_wp2
    go_ret
    exact ⟨rfl, HB1.out⟩
  by_cases g5 : 1125899906842624 < life
  · go_wp2
    go_ret
    exact ⟨rfl, HB1.out⟩
  have hl1 := Nat.le_trans (seenL_len v life now xs) (by rw [← HX.out.1.len]; exact hn)
  have HL1 := Lib.hid hl1
  have hrng : -1152921504606846976 ≤ now ∧ now ≤ 1152921504606846976 ∧ -1152921504606846976 ≤ later ∧ later ≤ 1152921504606846976 ∧ now ≤ later := by omega
  have HRNG := Lib.hid hrng
  have hs1 := Lib.hid (seen_all a n ca xs v life now w1 (HX.out.1.below HB1.out) (by omega) HX.out.2.1 (tabs_below HT.out HB1.out) (.inr ⟨hrng.1, hrng.2.1⟩))
  clear hl1 hrng
  go_wp2_with fail
  refine hs1.out.mono ?_
  clear hs1
  rintro e w3 ⟨A3, n3, c3, rfl, ho3, hb3⟩
  have HO3 := Lib.hid ho3
  have HB3 := Lib.hid (HB1.out.trans (hb3.mono HB1.out.size))
  have hs := Lib.hid (needed_calls a n ca xs v life now w3 (HX.out.1.below HB3.out) (by omega) HX.out.2.1 (tabs_below HT.out HB3.out) (.inr ⟨HRNG.out.1, HRNG.out.2.1⟩))
  clear ho3 hb3
  go_wp2_with fail
  refine hs.out.mono ?_
  clear hs
  rintro e w4 ⟨A4, n4, c4, rfl, ho4, hb4⟩
  have HO4 := Lib.hid ho4
  have HO34 := Lib.hid (HO3.out.below hb4)
  have HB4 := Lib.hid (HB3.out.trans (hb4.mono HB3.out.size))
  have h34 : n3 ≤ 60 ∧ n4 ≤ 60 := ⟨by rw [HO3.out.1]; exact HL1.out, by rw [ho4.1]; exact HL1.out⟩
  obtain ⟨h3, h4⟩ := h34
  have hs := Lib.hid (seen_all A3 n3 c3 _ v life now w4 (HO34.out.rd Cell.l_len) (by omega) (seenL_fits HX.out.2.1) (tabs_below HT.out HB4.out) (.inr ⟨HRNG.out.1, HRNG.out.2.1⟩))
  clear ho4 hb4 HO3 HB3
  go_wp2_with fail
  refine hs.out.mono ?_
  clear hs
  rintro e w5 ⟨A5, n5, c5, rfl, ho5, hb5⟩
  rw [same_again] at ho5
  have HO45 := Lib.hid (HO4.out.below hb5)
  have HB5 := Lib.hid (HB4.out.trans (hb5.mono HB4.out.size))
  have h5 : n5 ≤ 60 := by rw [ho5.1]; exact HL1.out
  have hs := Lib.hid (same_calls A5 A3 n5 n3 c5 c3 _ _ w5 (ho5.rd Cell.l_len) ((HO34.out.below hb5).rd Cell.l_len) (by omega) (by omega))
  rw [decide_eq_true rfl] at hs
  clear ho5 hb5 HO4 HO34 HB4
  go_wp2_with fail
  refine hs.out.mono ?_
  clear hs
  rintro e w6 ⟨rfl, q6, hw6⟩
  have hb6 : Below w5.heap.size w5 w6 := by rw [hw6]; exact drewN_below w5 q6
  have HO46 := Lib.hid (HO45.out.below hb6)
  have HB6 := Lib.hid (HB5.out.trans (hb6.mono HB5.out.size))
  have hs := Lib.hid (seen_all A4 n4 c4 _ v life later w6 (HO46.out.rd Cell.l_len) (by omega) (seenL_fits HX.out.2.1) (tabs_below HT.out HB6.out) (.inr ⟨HRNG.out.2.2.1, HRNG.out.2.2.2.1⟩))
  clear hw6 hb6 HO45 HB5
  go_wp2_with fail
  refine hs.out.mono ?_
  clear hs
  rintro e w7 ⟨A7, n7, c7, rfl, ho7, hb7⟩
  rw [same_later v life now later xs HRNG.out.2.2.2.2] at ho7
  have h7 : n7 ≤ 60 := by rw [ho7.1]; exact Nat.le_trans (seenL_len v life later xs) (by rw [← HX.out.1.len]; exact hn)
  have HO7 := Lib.hid ho7
  have HB7 := Lib.hid (HB6.out.trans (hb7.mono HB6.out.size))
  have hs := Lib.hid (seen_all a n ca xs v life later w7 (HX.out.1.below HB7.out) (by omega) HX.out.2.1 (tabs_below HT.out HB7.out) (.inr ⟨HRNG.out.2.2.1, HRNG.out.2.2.2.1⟩))
  clear ho7 hb7 HB6 HO46
  go_wp2_with fail
  refine hs.out.mono ?_
  clear hs
  rintro e w8 ⟨A8, n8, c8, rfl, ho8, hb8⟩
  have HB8 := Lib.hid (HB7.out.trans (hb8.mono HB7.out.size))
  have h8 : n8 ≤ 60 := by rw [ho8.1]; exact Nat.le_trans (seenL_len v life later xs) (by rw [← HX.out.1.len]; exact hn)
  have hs := Lib.hid (same_calls A7 A8 n7 n8 c7 c8 _ _ w8 ((HO7.out.below hb8).rd Cell.l_len) (ho8.rd Cell.l_len) (by omega) (by omega))
  rw [decide_eq_true rfl] at hs
  clear ho8 hb8 HO7 HB7
  go_wp2_with fail
  refine hs.out.mono ?_
  clear hs
  rintro e w9 ⟨rfl, q9, hw9⟩
  have hb9 : Below w8.heap.size w8 w9 := by rw [hw9]; exact drewN_below w8 q9
  have HB9 := Lib.hid (HB8.out.trans (hb9.mono HB8.out.size))
  clear hw9 hb9
  go_wp2
  go_ret
  exact ⟨rfl, HB9.out⟩
end Go.Proofs.YtndmlldaebdnmaaDoor
