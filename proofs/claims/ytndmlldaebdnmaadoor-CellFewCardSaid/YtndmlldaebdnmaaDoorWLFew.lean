/-
  CellFew, walked: it answers true and turns nothing that was there.
-/
import Derived.Test.YtndmlldaebdnmaaDoorWLaw
namespace Go.Proofs.YtndmlldaebdnmaaDoor
open Go.RowKit

theorem few_col {v life now : Int} {l S : List Cell} (hS : S = seenL v life now l) {i : Nat} {c : Cell} (hc : S[i]? = some c) : (((S.take (i + 1)).filter fun x => colB x c).length : Int) ≤ v := by
  subst hS
  have hmem := List.mem_of_getElem? hc
  have h1 := seen_few hmem
  have hr := seenL_rises v life now l
  have hlt := get_lt hc
  have hlow : ∀ x ∈ (seenL v life now l).take i, x.order c < 0 := fun x hx => by
    obtain ⟨k, hk, hx⟩ := mem_take_get hx
    obtain ⟨hk1, rfl⟩ := List.getElem?_eq_some_iff.1 hx
    obtain ⟨hk2, rfl⟩ := List.getElem?_eq_some_iff.1 hc
    exact List.pairwise_iff_getElem.1 hr k i hk1 hk2 hk
  have e1 : ((seenL v life now l).take i).filter (fun x => colB x c) = ((seenL v life now l).take i).filter (fun x => decide (x.order c < 0) && colB x c) := List.filter_congr fun x hx => by rw [decide_eq_true (hlow x hx), Bool.true_and]
  have e2 : (((seenL v life now l).take i).filter (fun x => decide (x.order c < 0) && colB x c)).length ≤ ((seenL v life now l).filter (fun x => decide (x.order c < 0) && colB x c)).length := ((List.take_sublist _ _).filter _).length_le
  rw [List.take_add_one, hc, List.filter_append, List.length_append, e1]
  have e3 : ((Option.toList (some c)).filter fun x => colB x c).length ≤ 1 := List.length_filter_le _ _
  omega
/-- How many cells of the last one's column there are, at most. -/
structure FewAt (S : List Cell) (i m : Nat) : Prop where
  none : i = 0 → m = 0
  some : ∀ c, S[i - 1]? = some c → 0 < i → m ≤ ((S.take i).filter fun x => colB x c).length
theorem FewAt.one {S : List Cell} {i : Nat} {c : Cell} (hc : S[i]? = Option.some c) (hk : c.kind = 1) : FewAt S (i + 1) 1 := by
  refine ⟨fun h => by omega, fun d hd _ => ?_⟩
  rw [Nat.add_sub_cancel, hc] at hd
  obtain rfl := Option.some.inj hd
  rw [List.take_add_one, hc, List.filter_append, List.length_append]
  have : ((Option.toList (Option.some c)).filter fun x => colB x c).length = 1 := by simp [col_self (show c.kind ≠ 4 by omega)]
  omega
theorem FewAt.more {S : List Cell} {i m : Nat} {c d : Cell} (h : FewAt S (i + 1) m) (hd : S[i]? = Option.some d) (hc : S[i + 1]? = Option.some c) (hk : c.kind = 1) (hk2 : d.kind = 1) (h1 : c.row = d.row) (h2 : c.fam = d.fam) (h3 : c.qual = d.qual) : FewAt S (i + 1 + 1) (m + 1) := by
  refine ⟨fun h => by omega, fun e he _ => ?_⟩
  rw [Nat.add_sub_cancel, hc] at he
  obtain rfl := Option.some.inj he
  have := h.some d (by rw [Nat.add_sub_cancel]; exact hd) (by omega)
  have e1 : (fun x => colB x d) = fun x => colB x c := by
    funext x
    unfold colB groupB
    rw [h1, h2, h3, hk, hk2]
  rw [e1] at this
  rw [List.take_add_one, hc, List.filter_append, List.length_append]
  have : ((Option.toList (Option.some c)).filter fun x => colB x c).length = 1 := by simp [col_self (show c.kind ≠ 4 by omega)]
  omega
theorem FewAt.le {v life now : Int} {l S : List Cell} (hS : S = seenL v life now l) {i m : Nat} {c : Cell} (hc : S[i]? = Option.some c) (h : FewAt S (i + 1) m) : (m : Int) ≤ v := by
  have h1 := h.some c (by rw [Nat.add_sub_cancel]; exact hc) (by omega)
  have h2 := few_col hS hc
  omega

set_option maxHeartbeats 4000000 in
set_option maxRecDepth 20000 in
theorem lfew_calls (a : Option Addr) (n ca : Nat) (xs : List Cell) (v life now : Int) (w : World) (hx : ArgC w a n ca xs) (_ : isInt v) (_ : isInt life) (_ : isInt now) (hT : Lib.Utf8Tabs 0 1 w) :
    Calls Tryd.prog 6 #[.slice a n ca, .int .i64 v, .int .i64 life, .int .i64 now] w fun e w' => e = .returned (.bool true) ∧ Below w.heap.size w w' := by
  have HX := Lib.hid hx
  have HT := Lib.hid hT
  have hal := Lib.hid (alive_calls w hT)
  clear hx hT
  go_enter Tryd.func6, Tryd.ntmps6
  go_wp2_with fail
  refine hal.out.mono ?_
  clear hal
  rintro e w1 ⟨rfl, hb1⟩
  have hlong := Lib.hid (longl_calls a n ca xs w1 (HX.out.1.below hb1) (by have := HX.out.2.2.2; omega))
  have HB1 := Lib.hid hb1
  clear hb1
  go_wp2_with fail
  refine hlong.out.mono ?_
  clear hlong
  rintro e w2 ⟨rfl, hw⟩
  obtain rfl : w1 = w2 := hw.symm
  cases hl : longC xs 60 with
  | true =>
    go_wp2
    go_ret
    exact ⟨rfl, HB1.out⟩
  | false =>
  have hn : n ≤ 60 := by have := long_few hl; rw [HX.out.1.len]; exact this
  clear hl
  by_cases g1 : now < 0
  · go_wp2
    go_ret
    exact ⟨rfl, HB1.out⟩
  by_cases g2 : 1125899906842624 < now
  · go_wp2
    go_ret
    exact ⟨rfl, HB1.out⟩
  by_cases g3 : 1125899906842624 < life
  · go_wp2
    go_ret
    exact ⟨rfl, HB1.out⟩
  have hrng : -1152921504606846976 ≤ now ∧ now ≤ 1152921504606846976 := by omega
  have hs := Lib.hid (seen_all a n ca xs v life now w1 (HX.out.1.below HB1.out) (by omega) HX.out.2.1 (tabs_below HT.out HB1.out) (.inr hrng))
  go_wp2_with fail
  refine hs.out.mono ?_
  clear hs
  rintro e w4 ⟨A3, n3, c3, rfl, ho3, hb3⟩
  obtain ⟨S, hS⟩ : ∃ S, S = seenL v life now xs := ⟨_, rfl⟩
  have HS := Lib.hid hS
  rw [← hS] at ho3
  have HO := Lib.hid (ho3.rd Cell.l_len)
  have HB4 := Lib.hid (HB1.out.trans (hb3.mono HB1.out.size))
  have hl3 : n3 ≤ 60 := by rw [ho3.1, hS]; exact Nat.le_trans (seenL_len v life now xs) (by rw [← HX.out.1.len]; exact hn)
  have hputs : ∀ c ∈ S, c.kind = 1 := fun c hc => by rw [hS] at hc; exact (seenL_sub hc).2
  have HP := Lib.hid hputs
  clear ho3 hb3 hS HB1 HX HT hn g1 g2 g3 hrng hputs
  go_wp2_with fail
  go_loopw [10, 11] (fun mm ii wr => ∃ m i q : Nat, mm = .int .i64 m ∧ ii = .int .i64 i ∧ i ≤ n3 ∧ m ≤ i ∧ wr = w4.drewN q ∧ Hid (FewAt S i m)) (fun _ i _ => n3 - (intOf i).toNat)
  case atStart => exact ⟨0, 0, 0, rfl, rfl, Nat.zero_le _, Nat.le_refl _, rfl, ⟨fun _ => rfl, fun _ _ h => by omega⟩⟩
  case round =>
    obtain ⟨m, i, q, rfl, rfl, hi, hm, rfl, HF⟩ := hrel
    by_cases hlt : i < n3
    · obtain ⟨c, bb, off, hc, rfl, _, hc8⟩ := rd8 HO.out i hlt
      obtain ⟨k0, k1, k2, k3, k4, k5, k6, k7⟩ := hc8.get
      have hkd := HP.out c (List.mem_of_getElem? hc)
      rw [hkd] at k4
      have HKD := Lib.hid hkd
      have HC := Lib.hid hc
      clear hc hc8 hkd
      by_cases h0 : i = 0
      · subst h0
        have hv : (1 : Int) ≤ v := FewAt.le HS.out HC.out (FewAt.one HC.out HKD.out)
        have HF2 := Lib.hid (FewAt.one HC.out HKD.out)
        go_wp2
        go_quiet (fail)
        go_wp2
        go_roundw
        case rel => exact ⟨1, 1, q + nq, rfl, rfl, by omega, by omega, rfl, HF2.out⟩
        case measure => simp [intOf]; omega
      · obtain ⟨j, hj⟩ : ∃ j, i = j + 1 := ⟨i - 1, by omega⟩
        have HJ := Lib.hid hj
        obtain ⟨d, bb2, off2, hd, hA, _, hd8⟩ := rd8 HO.out j (by omega)
        injection hA with hA
        injection hA with e1 e2 _
        subst e1; subst e2
        obtain ⟨l0, l1, l2, l3, l4, l5, l6, l7⟩ := hd8.get
        have HD := Lib.hid hd
        have hkd := HP.out d (List.mem_of_getElem? hd)
        have HKD2 := Lib.hid hkd
        have ej : IntKind.i64.wrap ((i : Int) - 1) = (j : Int) := by rw [IntKind.wrap_i64]; omega
        have ej2 : (i : Int) - 1 = (j : Int) := by omega
        have i0 : (0 : Int) < (i : Int) := by omega
        have i0n : 0 < i := by omega
        have i1 : (0 : Int) ≤ (j : Int) := by omega
        have i2 : (j : Int) < (n3 : Int) := by omega
        have i3 : (i : Int) < (n3 : Int) := by omega
        have x1 := str_dec c.row d.row
        have x2 := str_dec c.fam d.fam
        have x3 := str_dec c.qual d.qual
        clear hd hd8 hj hkd
        by_cases hin : c.row = d.row ∧ c.fam = d.fam ∧ c.qual = d.qual
        · obtain ⟨h1, h2, h3⟩ := hin
          rw [decide_eq_true h1] at x1
          rw [decide_eq_true h2] at x2
          rw [decide_eq_true h3] at x3
          have hf2 : FewAt S (i + 1) (m + 1) := by
            have e := HJ.out
            have hf := HF.out
            have hc := HC.out
            subst e
            exact hf.more HD.out hc HKD.out HKD2.out h1 h2 h3
          have hv : (m : Int) + 1 ≤ v := by have := FewAt.le HS.out HC.out hf2; omega
          have htm : c.time < d.time := by
            have hcm : c ∈ seenL v life now xs := by rw [← HS.out]; exact List.mem_of_getElem? HC.out
            have hdm : d ∈ seenL v life now xs := by rw [← HS.out]; exact List.mem_of_getElem? HD.out
            refine seen_falls hdm hcm ?_ (col_iff.2 ⟨⟨h1.symm, h2.symm⟩, h3.symm, by rw [HKD2.out]; decide, by rw [HKD.out]; decide⟩)
            have hr := seenL_rises v life now xs
            rw [← HS.out] at hr
            obtain ⟨q1, e1⟩ := List.getElem?_eq_some_iff.1 HC.out
            obtain ⟨q2, e2⟩ := List.getElem?_eq_some_iff.1 HD.out
            have := List.pairwise_iff_getElem.1 hr j i q2 q1 (by have := HJ.out; omega)
            rw [e1, e2] at this
            exact this
          have HF2 := Lib.hid hf2
          clear h1 h2 h3 hf2
          go_wp2
          go_quiet (fail)
          go_wp2
          go_quiet (fail)
          go_wp2
          go_roundw
          case rel => exact ⟨m + 1, i + 1, _, by go_num, by go_num, by omega, by omega, rfl, HF2.out⟩
          case measure => simp [intOf]; omega
        · have hv : (1 : Int) ≤ v := FewAt.le HS.out HC.out (FewAt.one HC.out HKD.out)
          have HF2 := Lib.hid (FewAt.one HC.out HKD.out)
          have y : ((c.row.toList == d.row.toList) = true ∧ (c.fam.toList == d.fam.toList) = true ∧ (c.qual.toList == d.qual.toList) = false) ∨ ((c.row.toList == d.row.toList) = true ∧ (c.fam.toList == d.fam.toList) = false) ∨ (c.row.toList == d.row.toList) = false := by
            by_cases h1 : c.row = d.row
            · by_cases h2 : c.fam = d.fam
              · exact .inl ⟨by rw [x1, decide_eq_true h1], by rw [x2, decide_eq_true h2], by rw [x3]; exact decide_eq_false (fun h3 => hin ⟨h1, h2, h3⟩)⟩
              · exact .inr (.inl ⟨by rw [x1, decide_eq_true h1], by rw [x2, decide_eq_false h2]⟩)
            · exact .inr (.inr (by rw [x1, decide_eq_false h1]))
          clear x1 x2 x3
          rcases y with ⟨y1, y2, y3⟩ | ⟨y1, y2⟩ | y1
          all_goals
            clear hin
            go_wp2
            go_quiet (fail)
            go_wp2
            go_roundw
            case rel => exact ⟨1, i + 1, _, rfl, by go_num, by omega, by omega, rfl, HF2.out⟩
            case measure => simp [intOf]; omega
    · have HB5 := Lib.hid (HB4.out.trans ((drewN_below w4 q).mono HB4.out.size))
      go_wp2
      go_ret
      exact ⟨rfl, HB5.out⟩
end Go.Proofs.YtndmlldaebdnmaaDoor
