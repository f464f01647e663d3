/-
  CellOrder, walked: it answers true and turns nothing that was there.
-/
import Derived.Test.YtndmlldaebdnmaaDoorWLaw
import Derived.Test.YtndmlldaebdnmaaDoorJRRight
import Derived.Test.YtndmlldaebdnmaaDoorJROrder
namespace Go.Proofs.YtndmlldaebdnmaaDoor
open Go.RowKit

/-- Numbers that came in. -/
abbrev encI (n : Int) : List Value := [.int .i64 n]
def ArgI (w : World) (a : Option Addr) (n ca : Nat) (xs : List Int) : Prop := Rd 1 encI w a n xs ∧ (∀ c ∈ xs, isInt c) ∧ (a = none → ca = 0) ∧ n ≤ ca ∧ ca ≤ 140737488351232
theorem Cell.fits.small' {c : Cell} (h : c.fits) : c.small := ⟨h.row, h.fam, h.qual⟩
theorem own_cap0 {α : Type} {E : TypeId} {sz : Nat} {enc : α → List Value} {w : World} {base n cap : Nat} {A : Option Addr} {xs : List α} (h : Own E sz enc w base A n cap xs) (hA : A = none) : cap = 0 := by
  obtain ⟨_, _, h2 | ⟨g, cap', cur, h3, _⟩⟩ := h
  · have h3 := h2.1
    injection h3
  · injection h3 with e1 _ _
    rw [hA] at e1
    cases e1
theorem rdI {w : World} {A : Option Addr} {n : Nat} {xs : List Int} (h : Rd 1 encI w A n xs) (i : Nat) (hi : i < n) : ∃ x b off, xs[i]? = some x ∧ A = some ⟨b, off, none⟩ ∧ b < w.heap.size ∧ w.cell? ⟨b, off + i, none⟩ = some (.int .i64 x) := by
  obtain ⟨c, b, off, h1, h2, h3, h4⟩ := h.get i hi
  have := h4 0 _ rfl
  rw [Nat.mul_one, Nat.add_zero] at this
  exact ⟨c, b, off, h1, h2, h3, this⟩
theorem bits_low (x : Int) : ∃ r : Nat, r ≤ 1023 ∧ bits .and .i64 x 1023 = (r : Int) := by
  refine ⟨(BitVec.ofInt 64 x &&& BitVec.ofInt 64 1023).toNat, ?_, ?_⟩
  · rw [BitVec.toNat_and]
    exact Nat.and_le_right
  · have h : (BitVec.ofInt 64 x &&& BitVec.ofInt 64 1023).toNat ≤ 1023 := by
      rw [BitVec.toNat_and]
      exact Nat.and_le_right
    show IntKind.i64.wrap ((BitVec.ofInt 64 x &&& BitVec.ofInt 64 1023).toNat : Int) = _
    rw [IntKind.wrap_i64]
    omega
theorem swapC_perm {l : List Cell} {i j : Nat} (hi : i < l.length) (hj : j < l.length) : (swapC l i j).Perm l := by
  unfold swapC
  have e1 : l.getD j nilC = l[j] := by rw [List.getD_eq_getElem?_getD, List.getElem?_eq_getElem hj]; rfl
  have e2 : l.getD i nilC = l[i] := by rw [List.getD_eq_getElem?_getD, List.getElem?_eq_getElem hi]; rfl
  rw [e1, e2]
  exact List.set_set_perm hi hj

set_option maxHeartbeats 4000000 in
set_option maxRecDepth 20000 in
theorem lorder_calls (a : Option Addr) (n ca : Nat) (xs : List Cell) (b : Option Addr) (m cb : Nat) (ts : List Int) (v life now : Int) (w : World) (hx : ArgC w a n ca xs) (hy : ArgI w b m cb ts) (_ : isInt v) (_ : isInt life) (_ : isInt now) (hT : Lib.Utf8Tabs 0 1 w) :
    Calls Tryd.prog 3 #[.slice a n ca, .slice b m cb, .int .i64 v, .int .i64 life, .int .i64 now] w fun e w' => e = .returned (.bool true) ∧ Below w.heap.size w w' := by
  have HX := Lib.hid hx
  have HY := Lib.hid hy
  have HT := Lib.hid hT
  have hal := Lib.hid (alive_calls w hT)
  clear hx hy hT
  go_enter Tryd.func3, Tryd.ntmps3
  go_wp2_with fail
  refine hal.out.mono ?_
  clear hal
  rintro e w1 ⟨rfl, hb1⟩
  have hlong := Lib.hid (longl_calls a n ca xs w1 (HX.out.1.below hb1) (by have := HX.out.2.2.2; omega))
  have HB1 := Lib.hid hb1
  clear hb1
  go_wp2_with fail
  refine hlong.out.mono ?_
  clear hlong
  rintro e w2 ⟨rfl, hw⟩
  obtain rfl : w1 = w2 := hw.symm
  cases hl : longC xs 60 with
  | true =>
    go_wp2
    go_ret
    exact ⟨rfl, HB1.out⟩
  | false =>
  have hn : n ≤ 60 := by have := long_few hl; rw [HX.out.1.len]; exact this
  clear hl
  by_cases g1 : 100 < m
  · go_wp2
    go_ret
    exact ⟨rfl, HB1.out⟩
  by_cases g2 : now < 0
  · go_wp2
    go_ret
    exact ⟨rfl, HB1.out⟩
  by_cases g3 : 1125899906842624 < now
  · go_wp2
    go_ret
    exact ⟨rfl, HB1.out⟩
  by_cases g4 : 1125899906842624 < life
  · go_wp2
    go_ret
    exact ⟨rfl, HB1.out⟩
  have hrng : -1152921504606846976 ≤ now ∧ now ≤ 1152921504606846976 := by omega
  have hs := Lib.hid (sort_calls a n ca xs w1 (HX.out.1.below HB1.out) (by omega) HX.out.2.1 (tabs_below HT.out HB1.out))
  go_wp2_with fail
  refine hs.out.mono ?_
  clear hs
  rintro e w3 ⟨A3, n3, c3, rfl, ho3, hb3⟩
  obtain ⟨S, hS⟩ : ∃ S, S = sortL xs := ⟨_, rfl⟩
  have HS := Lib.hid hS
  rw [← hS] at ho3
  have HO3 := Lib.hid ho3
  have HB3 := Lib.hid (HB1.out.trans (hb3.mono HB1.out.size))
  have hl3 : n3 ≤ 60 := by rw [ho3.1, hS]; exact Nat.le_trans (sortL_len xs) (by rw [← HX.out.1.len]; exact hn)
  have hfit : ∀ c ∈ S, c.fits ∧ c.ok = true := fun c hc => by rw [hS] at hc; exact ⟨HX.out.2.1 c (sortL_sub hc), sortL_ok hc⟩
  have HFIT := Lib.hid hfit
  have hris : Rises S := by rw [hS]; exact sortL_rises xs
  have HRIS := Lib.hid hris
  have HRD := Lib.hid (ho3.rd Cell.l_len)
  have hm : m ≤ 100 := by omega
  clear ho3 hb3 hS hfit hris g1
  go_wp2_with fail
  go_loopw [12] (fun ii wr => ∃ i : Nat, ii = .int .i64 i ∧ i ≤ n3 ∧ Hid (Below w3.heap.size w3 wr)) (fun i _ => n3 - (intOf i).toNat)
  case atStart => exact ⟨0, rfl, Nat.zero_le _, Below.refl _ _⟩
  case round =>
    obtain ⟨i, rfl, hi, HBR⟩ := hrel
    by_cases hlt : i < n3
    · obtain ⟨c, bb, off, hc, rfl, _, hc8⟩ := rd8 (HRD.out.below HBR.out) i hlt
      obtain ⟨k0, k1, k2, k3, k4, k5, k6, k7⟩ := hc8.later
      have hcf := HFIT.out c (List.mem_of_getElem? hc)
      have hright : Hid (∀ X, Calls Tryd.prog 12 #[c.v] (wr.later X) fun e w'' => e = .returned (.bool true) ∧ ∃ Y, w'' = wr.later Y) := fun X => by
        have := calls_later (rright_calls c (wr.later X) hcf.1)
        rw [hcf.2] at this
        exact this
      have i0 : (0 : Int) ≤ (i : Int) := by omega
      have i1 : (i : Int) < (n3 : Int) := by omega
      have HC := Lib.hid hc
      have HCF := Lib.hid hcf
      clear hc hc8 hcf
      by_cases h0 : i = 0
      · subst h0
        simp only [Nat.zero_mul, Nat.add_zero] at k0 k1 k2 k3 k4 k5 k6 k7
        go_wp2_with fail
        refine wp_region_later (by kernel_rfl) (by kernel_rfl) ?_
        repeat (go_big_quiet_step ((go_at_call 12; exact hright.out _)))
        refine wpQuiet_nil ?_
        intro W5 hW5
        have HB6 : Hid (Below w3.heap.size w3 W5) := by
          obtain ⟨X, rfl⟩ := hW5
          exact HBR.out.trans ((later_below wr X).mono HBR.out.size)
        clear hW5 k0 k1 k2 k3 k4 k5 k6 k7 hright HBR
        go_wp2
        go_roundw
        case rel => exact ⟨1, rfl, by omega, HB6.out⟩
        case measure => simp [intOf]; omega
      · obtain ⟨j, hj⟩ : ∃ j, i = j + 1 := ⟨i - 1, by omega⟩
        obtain ⟨d, bb2, off2, hd, hA, _, hd8⟩ := rd8 (HRD.out.below HBR.out) j (by omega)
        injection hA with hA
        injection hA with e1 e2 _
        subst e1; subst e2
        obtain ⟨l0, l1, l2, l3, l4, l5, l6, l7⟩ := hd8.later
        have hdf := HFIT.out d (List.mem_of_getElem? hd)
        have hord : d.order c < 0 := by
          obtain ⟨q1, e1⟩ := List.getElem?_eq_some_iff.1 HC.out
          obtain ⟨q2, e2⟩ := List.getElem?_eq_some_iff.1 hd
          have := List.pairwise_iff_getElem.1 HRIS.out j i q2 q1 (by omega)
          rw [e1, e2] at this
          exact this
        have horder : Hid (∀ X, Calls Tryd.prog 13 #[d.v, c.v] (wr.later X) fun e w'' => e = .returned (.int .i64 (d.order c)) ∧ ∃ Y, w'' = wr.later Y) := fun X => calls_later (rorder_calls d c (wr.later X) hdf.1.small' HCF.out.1.small')
        have ej : IntKind.i64.wrap ((i : Int) - 1) = (j : Int) := by rw [IntKind.wrap_i64]; omega
        have ej2 : (i : Int) - 1 = (j : Int) := by omega
        have j0 : (0 : Int) ≤ (j : Int) := by omega
        have j1 : (j : Int) < (n3 : Int) := by omega
        have j2 : (0 : Int) < (i : Int) := by omega
        have j3 : 0 < i := by omega
        have hdec : decide (0 ≤ d.order c) = false := decide_eq_false (by omega)
        clear hd hd8 hj hdf hord h0
        go_wp2_with fail
        refine wp_region_later (by kernel_rfl) (by kernel_rfl) ?_
        repeat (go_big_quiet_step ((first | (go_at_call 12; exact hright.out _) | (go_at_call 13; exact horder.out _))))
        refine wpQuiet_nil ?_
        intro W5 hW5
        have HB6 : Hid (Below w3.heap.size w3 W5) := by
          obtain ⟨X, rfl⟩ := hW5
          exact HBR.out.trans ((later_below wr X).mono HBR.out.size)
        clear hW5 k0 k1 k2 k3 k4 k5 k6 k7 l0 l1 l2 l3 l4 l5 l6 l7 hright horder HBR ej ej2
        go_wp2
        go_roundw
        case rel => exact ⟨i + 1, by go_num, by omega, HB6.out⟩
        case measure => simp [intOf]; omega
    · obtain rfl : i = n3 := by omega
      have HB4 := Lib.hid (HB3.out.trans (HBR.out.mono HB3.out.size))
      have hs := Lib.hid (copy_calls A3 i c3 S wr (HRD.out.below HBR.out) (own_cap0 HO3.out) (by omega))
      go_wp2_with fail
      refine hs.out.mono ?_
      clear hs
      rintro e w4 ⟨A4, n4, c4, rfl, ho4, hb4⟩
      have h44 : n4 = i := by rw [ho4.1, HO3.out.1]
      subst h44
      have HO4 := Lib.hid ho4
      have HB04 := Lib.hid hb4
      obtain ⟨W0, hW0⟩ : ∃ W0 : World, W0 = wr := ⟨_, rfl⟩
      subst hW0
      clear ho4 hb4 hlt hi
      go_wp2_with fail
      go_loopw [14] (fun ii wr => ∃ (i : Nat) (M : List Cell), ii = .int .i64 i ∧ i ≤ m ∧ Hid (OwnC wr W0.heap.size A4 n4 c4 M) ∧ Hid (M.Perm S) ∧ Hid (Below W0.heap.size W0 wr)) (fun i _ => m - (intOf i).toNat)
      case atStart => exact ⟨0, S, rfl, Nat.zero_le _, HO4.out, List.Perm.refl _, HB04.out⟩
      case round =>
        clear HO4 HB04
        obtain ⟨i, M, rfl, hi, HO, HPM, HBR2⟩ := hrel
        by_cases hgo : i < m ∧ 0 < n4
        · obtain ⟨hlt, hpos⟩ := hgo
          obtain ⟨g, rfl, hg1, _⟩ := own_lt HO.out hpos
          obtain ⟨x, bb, off, hx, rfl, _, hxc⟩ := rdI (HY.out.1.below (HB4.out.trans (HBR2.out.mono HB4.out.size))) i hlt
          have hxi := HY.out.2.1 x (List.mem_of_getElem? hx)
          have HG := Lib.hid hg1
          clear hx hg1
          have i0 : (0 : Int) ≤ (i : Int) := by omega
          have i1 : (i : Int) < (m : Int) := by omega
          go_upto_region 17 with fail
          obtain ⟨r, _, hbits⟩ := bits_low x
          obtain ⟨pa, hpa⟩ : ∃ pa, pa = r % n4 := ⟨_, rfl⟩
          obtain ⟨pb, hpb⟩ : ∃ pb, pb = i % n4 := ⟨_, rfl⟩
          have e1 : (bits BinOp.and IntKind.i64 x 1023).tmod (n4 : Int) = (pa : Int) := by rw [hbits, hpa]; rfl
          have e2 : ((i : Int) % (n4 : Int)) = (pb : Int) := by rw [hpb]; rfl
          have ha : pa < n4 := by rw [hpa]; exact Nat.mod_lt _ hpos
          have hb : pb < n4 := by rw [hpb]; exact Nat.mod_lt _ hpos
          rw [e1, e2]
          clear hpa hpb hbits e1 e2 hxc hxi
          obtain ⟨u, hu, hu8⟩ := rd8z (HO.out.rd Cell.l_len) pa ha
          obtain ⟨y, hy, hy8⟩ := rd8z (HO.out.rd Cell.l_len) pb hb
          obtain ⟨k0, k1, k2, k3, k4, k5, k6, k7⟩ := hu8.get
          obtain ⟨l0, l1, l2, l3, l4, l5, l6, l7⟩ := hy8.get
          have hfz : ∀ q, wr.frozen? ⟨g, q, none⟩ = false := HO.out.2.frozenAt
          have i0 : (0 : Int) ≤ (pa : Int) := by omega
          have i1 : (pa : Int) < (n4 : Int) := by omega
          have j0 : (0 : Int) ≤ (pb : Int) := by omega
          have j1 : (pb : Int) < (n4 : Int) := by omega
          have HU := Lib.hid hu
          have HYY := Lib.hid hy
          have hz0 := HBR2.out.size
          clear hu hy hu8 hy8
          by_cases hab : pa = pb
          · subst hab
            obtain rfl : u = y := by have := HU.out; rw [HYY.out] at this; exact (Option.some.inj this).symm
            go_region
            have E1 := own_set8 HO.out pa u u HU.out
            have E2 := own_set8 E1 pa u u (by rw [List.getElem?_set]; simp [(List.getElem?_eq_some_iff.1 HU.out).1])
            have hs : (M.set pa u).set pa u = M := by
              rw [List.set_set]
              obtain ⟨h1, h2⟩ := List.getElem?_eq_some_iff.1 HU.out
              rw [← h2]
              exact List.set_getElem_self h1
            rw [hs] at E2
            have E3 : Hid (OwnC (World.drew (set8 (set8 wr g (pa * 8) u) g (pa * 8) u)) W0.heap.size (some ⟨g, 0, none⟩) n4 c4 M) := Lib.hid (E2.below (below_drew1 _))
            have HN3 : Hid (Below W0.heap.size W0 (World.drew (set8 (set8 wr g (pa * 8) u) g (pa * 8) u))) := Lib.hid (HBR2.out.trans (((((set8_only wr g (pa * 8) u).trans (set8_only _ g (pa * 8) u))).trans ((below_drew1 _).only _)).below (B := W0.heap.size) hz0 (fun i hi => by rw [hi]; exact HG.out)))
            clear E1 E2 hs HO HBR2 k0 k1 k2 k3 k4 k5 k6 k7 l0 l1 l2 l3 l4 l5 l6 l7 hfz
            go_wp2
            go_roundw
            case rel => exact ⟨i + 1, M, by go_num, by omega, E3.out, HPM.out, HN3.out⟩
            case measure => simp [intOf]; omega
          · go_region
            have E1 := own_set8 HO.out pa y u HU.out
            have E2 := own_set8 E1 pb u y (by rw [List.getElem?_set, if_neg hab]; exact HYY.out)
            have hs : (M.set pa y).set pb u = swapC M pa pb := by
              rw [swapC, List.getD_eq_getElem?_getD, List.getD_eq_getElem?_getD, HU.out, HYY.out]
              rfl
            rw [hs] at E2
            have hl := HO.out.1
            have HP2 := Lib.hid ((swapC_perm (l := M) (i := pa) (j := pb) (by omega) (by omega)).trans HPM.out)
            have E3 : Hid (OwnC (World.drew (set8 (set8 wr g (pa * 8) y) g (pb * 8) u)) W0.heap.size (some ⟨g, 0, none⟩) n4 c4 (swapC M pa pb)) := Lib.hid (E2.below (below_drew1 _))
            have HN3 : Hid (Below W0.heap.size W0 (World.drew (set8 (set8 wr g (pa * 8) y) g (pb * 8) u))) := Lib.hid (HBR2.out.trans (((((set8_only wr g (pa * 8) y).trans (set8_only _ g (pb * 8) u))).trans ((below_drew1 _).only _)).below (B := W0.heap.size) hz0 (fun i hi => by rw [hi]; exact HG.out)))
            clear E1 E2 hs hl HO HBR2 k0 k1 k2 k3 k4 k5 k6 k7 l0 l1 l2 l3 l4 l5 l6 l7 hfz
            go_wp2
            go_roundw
            case rel => exact ⟨i + 1, swapC M pa pb, by go_num, by omega, E3.out, HP2.out, HN3.out⟩
            case measure => simp [intOf]; omega
        · have HMIX : Hid (sortL M = S ∧ ∀ v life now, seenL v life now M = seenL v life now xs) := by
            have hp := HPM.out
            rw [HS.out] at hp
            have := seen_mixed hp
            unfold Hid
            rw [HS.out]
            exact this
          have hfm : ∀ c ∈ M, c.fits := fun c hc => (HFIT.out c (HPM.out.mem_iff.1 hc)).1
          have HFM := Lib.hid hfm
          have HR4 := Lib.hid (HO.out.rd Cell.l_len)
          have HRS := Lib.hid ((HRD.out.below HBR.out).below HBR2.out)
          have HB5 := Lib.hid (HB4.out.trans (HBR2.out.mono HB4.out.size))
          have hs := Lib.hid (sort_calls A4 n4 c4 M wr HR4.out (by omega) HFM.out (tabs_below HT.out HB5.out))
          rw [HMIX.out.1] at hs
          have hgo2 : (¬ i < m) ∨ (i < m ∧ n4 = 0) := by omega
          clear hgo hfm HO HBR2 HB4
          rcases hgo2 with z | ⟨z, z0⟩
          case' inr =>
            have z1 : ¬ 0 < n4 := by omega
            have z2 : ¬ (0 : Int) < (n4 : Int) := by omega
            clear z0
          all_goals
            go_wp2_with fail
            refine hs.out.mono ?_
            clear hs
            rintro e w5 ⟨A5, n5, c5, rfl, ho5, hb5⟩
            have h5 : n5 ≤ 60 := by rw [ho5.1, ← HO3.out.1]; exact hl3
            have hs := Lib.hid (same_calls A5 A3 n5 n4 c5 c3 _ _ w5 (ho5.rd Cell.l_len) (HRS.out.below hb5) (by omega) (by omega))
            rw [decide_eq_true rfl] at hs
            have HB6 := Lib.hid (HB5.out.trans (hb5.mono HB5.out.size))
            have HR5 := Lib.hid (HR4.out.below hb5)
            clear ho5 hb5
            go_wp2_with fail
            refine hs.out.mono ?_
            clear hs
            rintro e w6 ⟨rfl, q6, hw6⟩
            have hb6 : Below w5.heap.size w5 w6 := by rw [hw6]; exact drewN_below w5 q6
            have HB7 := Lib.hid (HB6.out.trans (hb6.mono HB6.out.size))
            have HR6 := Lib.hid (HR5.out.below hb6)
            have hs := Lib.hid (seen_all A4 n4 c4 M v life now w6 HR6.out (by omega) HFM.out (tabs_below HT.out HB7.out) (.inr hrng))
            rw [HMIX.out.2 v life now] at hs
            clear hw6 hb6
            go_wp2_with fail
            refine hs.out.mono ?_
            clear hs
            rintro e w7 ⟨A7, n7, c7, rfl, ho7, hb7⟩
            have h7 : n7 ≤ 60 := by rw [ho7.1]; exact Nat.le_trans (seenL_len v life now xs) (by rw [← HX.out.1.len]; exact hn)
            have HO7 := Lib.hid ho7
            have HB8 := Lib.hid (HB7.out.trans (hb7.mono HB7.out.size))
            have hs := Lib.hid (seen_all a n ca xs v life now w7 (HX.out.1.below HB8.out) (by omega) HX.out.2.1 (tabs_below HT.out HB8.out) (.inr hrng))
            clear ho7 hb7
            go_wp2_with fail
            refine hs.out.mono ?_
            clear hs
            rintro e w8 ⟨A8, n8, c8, rfl, ho8, hb8⟩
            have h8 : n8 ≤ 60 := by rw [ho8.1]; exact Nat.le_trans (seenL_len v life now xs) (by rw [← HX.out.1.len]; exact hn)
            have HB9 := Lib.hid (HB8.out.trans (hb8.mono HB8.out.size))
            have hs := Lib.hid (same_calls A7 A8 n7 n8 c7 c8 _ _ w8 ((HO7.out.below hb8).rd Cell.l_len) (ho8.rd Cell.l_len) (by omega) (by omega))
            rw [decide_eq_true rfl] at hs
            clear ho8 hb8
            go_wp2_with fail
            refine hs.out.mono ?_
            clear hs
            rintro e w9 ⟨rfl, q9, hw9⟩
            have hb9 : Below w8.heap.size w8 w9 := by rw [hw9]; exact drewN_below w8 q9
            have HB10 := Lib.hid (HB9.out.trans (hb9.mono HB9.out.size))
            clear hw9 hb9
            go_wp2
            go_ret
            exact ⟨rfl, HB10.out⟩
end Go.Proofs.YtndmlldaebdnmaaDoor
