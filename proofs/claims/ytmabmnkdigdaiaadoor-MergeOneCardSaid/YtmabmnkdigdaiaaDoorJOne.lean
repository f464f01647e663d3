/-
  MergeOne, walked: whatever the runs, it answers true and turns nothing that was there.
-/
import Derived.Test.YtmabmnkdigdaiaaDoorJAliveW
import Derived.Test.YtmabmnkdigdaiaaDoorJFine
import Derived.Test.YtmabmnkdigdaiaaDoorJOneP
import Derived.Outline
namespace Go.Proofs.YtmabmnkdigdaiaaDoor
open Go.RowKit

theorem fine_rises {l : List Cell} (h : Rises l) (hok : ∀ c ∈ l, c.ok = true) : fineC l = true := decide_eq_true fun k hk => by
  cases k with
  | zero => exact goodAt_zero (List.getElem?_eq_getElem hk) (hok _ (List.getElem_mem hk))
  | succ j =>
    rw [goodAt_succ (List.getElem?_eq_getElem hk) (List.getElem?_eq_getElem (by omega)) (hok _ (List.getElem_mem hk))]
    exact decide_eq_true (List.pairwise_iff_getElem.1 h j (j + 1) (by omega) hk (by omega))

attribute [local go_sem high] eqCell
set_option maxRecDepth 100000 in
set_option maxHeartbeats 2000000 in
theorem one_calls (A0 : Option Addr) (n c0 : Nat) (rows : List Row) (w : World) (hx : ArgRows w A0 n rows) (hT : Lib.Utf8Tabs 1 2 w) :
    Calls Tryd.prog 4 #[.slice A0 n c0] w fun e w' => e = .returned (.bool true) ∧ Below w.heap.size w w' := by
  have HT := Lib.hid hT
  have HX := Lib.hid hx
  have hfew := hx.few
  have hlen := Lib.hid hx.rd.len
  clear hT hx
  cases hg : greatC rows with
  | true =>
    have hg := Lib.hid hg
    go_enter Tryd.func4, Tryd.ntmps4
    go_wp2_with fail
    refine (alive_calls _ HT.out).mono ?_; rintro e w1 ⟨rfl, hb1⟩
    go_wp2_with fail
    refine (great_calls A0 n c0 rows w1 (HX.out.below hb1).rd (fun r hr => ⟨((HX.out.below hb1).ok r hr).1, ((HX.out.below hb1).ok r hr).2.1⟩) hfew).mono ?_; rw [hg.out]; rintro e w2 ⟨rfl, rfl⟩
    go_wp2
    go_ret
    exact ⟨rfl, hb1⟩
  | false =>
    have hR := Lib.hid (runs_of hg HX.out)
    obtain ⟨hn12, hr60⟩ := great_no hg
    have hg := Lib.hid hg
    have hr60 := Lib.hid hr60
    have hn12' : n ≤ 12 := by have := hlen.out; omega
    clear hn12
    go_enter Tryd.func4, Tryd.ntmps4
    go_wp2_with fail
    refine (alive_calls _ HT.out).mono ?_; rintro e w1 ⟨rfl, hb1⟩
    go_wp2_with fail
    refine (great_calls A0 n c0 rows w1 (HX.out.below hb1).rd (fun r hr => ⟨((HX.out.below hb1).ok r hr).1, ((HX.out.below hb1).ok r hr).2.1⟩) hfew).mono ?_; rw [hg.out]; rintro e w2 ⟨rfl, rfl⟩
    have HT2 := Lib.hid (tabs_below HT.out hb1)
    have HX2 := Lib.hid (HX.out.below hb1)
    have HB2 := Lib.hid hb1
    clear hb1
    go_wp2_with fail
    have hat0 := RunsAt.lit w2
    have hb0' := (Below.refl w2.heap.size w2).alloc (Nat.le_refl _) (.cells #[] 23)
    generalize w2.alloc (.cells #[] 23) = W0 at *
    go_loopg [3, 4] n (fun gk rs i wr => ∃ (k cap : Nat) (A : Option Addr) (out : List Row), i = .int .i64 k ∧ k ≤ n ∧ gk = n - k ∧ rs = .slice A k cap ∧ RunsAt w2.heap.size A k cap out wr ∧ Hid (out.map Row.xs = (rows.take k).map (fun r => sortC r.xs)) ∧ Below w2.heap.size w2 wr)
    case atStart => exact ⟨0, 0, _, [], rfl, Nat.zero_le _, rfl, rfl, hat0, rfl, hb0'⟩
    case round =>
      clear hat0 hb0'
      obtain ⟨k, cap, A, out, rfl, hk, rfl, rfl, hat, hout, hb⟩ := hrel
      by_cases hlt : k < n
      · obtain ⟨r, b, off, hr, rfl, _, hrc⟩ := HX2.out.rd.get k hlt
        have c0 := below_cell hb (Nat.le_refl _) (hrc 0 _ rfl)
        simp only [Nat.mul_one, Nat.add_zero] at c0
        have hro := Lib.hid ((HX2.out.below hb).ok r (List.mem_of_getElem? hr))
        have hrl := Lib.hid (hr60.out r (List.mem_of_getElem? hr))
        have hsort := Lib.hid (rsort_calls r.A r.n r.cap r.xs wr hro.out.1 (by rw [hro.out.1.len]; have := hrl.out; omega) hro.out.2.2.2.2)
        have HR := Lib.hid hr
        clear hrc hr
        go_wp2_with (first
          | (go_at_call 25; refine hsort.out.mono ?_; clear hsort; rintro e w3 ⟨A', m', cap', rfl, hown, hb2⟩; have hown := Lib.hid hown; have hat2 := Lib.hid (hat.below hb2); have hsz2 := Nat.le_trans hb.size hb2.size)
          | (at_builtin; refine app_row rfl (.tmp 26) (.tmp 32) rfl ⟨A', m', cap', sortC r.xs⟩ rfl hat2.out.1 rfl rfl (by omega) hsz2 ?_; intro g cap3 w5 h1 h2 h3 h4))
        go_roundg (n - (k + 1))
        case measure => omega
        case rel =>
          refine ⟨k + 1, cap3, some ⟨g, 0, none⟩, out ++ [⟨A', m', cap', sortC r.xs⟩], by go_num, by omega, rfl, rfl, hat2.out.snoc hown.out (fun g hg => ((hat.lt g hg).2)) hb.size ?_ ?_ h1 h2 (h3.imp id Nat.le_of_lt), ?_, ?_⟩
          · have := sortC_len _ r.xs rfl; have := hrl.out; omega
          · exact fun c hc => hro.out.2.2.2.2 c (sortC_mem _ r.xs rfl c hc)
          · unfold Hid; rw [List.map_append, hout.out, List.take_add_one, HR.out]; simp
          · exact (hb.trans (hb2.mono hb.size)).trans (h2.below hsz2 (fun i hi => by have := (hat2.out.lt i hi).1; omega))
      · obtain rfl : k = n := by omega
        have hbeg : Hid (begL out = rows.map fun r => sortC r.xs) := by
          refine begL_sort ?_
          have := hout.out
          rwa [List.take_of_length_le (by have := hlen.out; omega)] at this
        have hxs : Hid (out.map Row.xs = rows.map fun r => sortC r.xs) := by
          have := hout.out
          rwa [List.take_of_length_le (by have := hlen.out; omega)] at this
        have hsz := hb.size
        have HM := Lib.hid hat.rows
        have HB3 := Lib.hid (HB2.out.trans (hb.mono HB2.out.size))
        have HT3 := Lib.hid (tabs_below HT2.out hb)
        obtain ⟨L, hL⟩ : ∃ L, L = rows.map fun r => sortC r.xs := ⟨_, rfl⟩
        rw [← hL] at hbeg hR hxs
        have hLn : k = L.length := by rw [hL, List.length_map]; exact hlen.out
        have hL60 : Hid (∀ l ∈ L, l.length ≤ 60) := fun l hl => by
          rw [hL] at hl
          obtain ⟨r, hr, rfl⟩ := List.mem_map.1 hl
          have := sortC_len _ r.xs rfl; have := hr60.out r hr; omega
        have HL := Lib.hid hLn
        clear hL hat hb hout hlt hsz hLn
        go_wp2_with fail
        refine (merge_calls _ _ _ _ _ HM.out (by omega) (by rw [hbeg.out]; exact Nat.le_trans hR.out.few (by omega)) HT3.out).mono ?_
        rintro e w6 ⟨o, hm, A6, n6, c6, rfl, hown6, hb6⟩
        rw [hbeg.out] at hm
        have HMG := Lib.hid hm
        have q6 := Lib.hid (hR.out.merged hm)
        have hn6 : n6 = o.length := hown6.1
        have hn720 : n6 ≤ 720 := by rw [hn6]; exact q6.out.2.2.2.1
        have HO6 := Lib.hid (hown6.rd Cell.l_len)
        have HM6 := Lib.hid (HM.out.below hb6)
        have HB6 := Lib.hid (HB3.out.trans (hb6.mono HB3.out.size))
        have HN6 := Lib.hid hn6
        clear hm hown6 hb6 HM HB3 HT3 hn6
        go_wp2_with fail
        refine (fine_calls A6 n6 c6 o _ HO6.out (by omega) q6.out.2.2.1).mono ?_
        rw [fine_rises q6.out.1 q6.out.2.1]
        rintro e w7 ⟨rfl, hb7⟩
        have HO7 := Lib.hid (HO6.out.below hb7)
        have HM7 := Lib.hid (HM6.out.below hb7)
        have HB7 := Lib.hid (HB6.out.trans (hb7.mono HB6.out.size))
        clear hb7 HO6 HM6 HB6
        go_wp2_with fail
        have hq7 := Below.refl w7.heap.size w7
        go_loopg [6, 7] k (fun gk us i wr => ∃ (j u : Nat), i = .int .i64 j ∧ j ≤ k ∧ gk = k - j ∧ us = .int .i64 u ∧ Hid (u = usedC L j) ∧ u ≤ 60 * j ∧ Below w7.heap.size w7 wr)
        case atStart => exact ⟨0, 0, rfl, Nat.zero_le _, rfl, rfl, rfl, Nat.zero_le _, hq7⟩
        case round =>
          clear hq7
          obtain ⟨j, u, rfl, hj, rfl, rfl, husd, hus, hbr⟩ := hrel
          by_cases hlt : j < k
          · obtain ⟨r, b, off, hr, hA, _, hrc⟩ := HM7.out.rd.get j hlt
            have c0 := hrc 0 _ rfl
            simp only [Nat.mul_one, Nat.add_zero] at c0
            have hrok := Lib.hid (HM7.out.ok r (List.mem_of_getElem? hr))
            have hLj : Hid (L[j]? = some r.xs) := by unfold Hid; rw [← hxs.out, List.getElem?_map, hr]; rfl
            have hrn : r.n ≤ 60 := by rw [hrok.out.rd.len]; exact hL60.out _ (List.mem_of_getElem? hLj.out)
            have hus0 : Hid (u = u + ((r.xs.take 0).filter (freeB (L.take j))).length) := by simp [Hid]
            have hj0 : (0 : Int) ≤ (j : Int) := by omega
            have hj1 : (j : Int) < (k : Int) := by omega
            have hj12 : j ≤ 12 := by omega
            subst hA
            have HRC := Lib.hid c0
            clear hrc hr c0
            have hbr0 := hbr
            go_wp2_with fail
            go_loopg [6, 8] r.n (fun gk us kk wr => ∃ (q v : Nat), kk = .int .i64 q ∧ q ≤ r.n ∧ gk = r.n - q ∧ us = .int .i64 v ∧ Hid (v = u + ((r.xs.take q).filter (freeB (L.take j))).length) ∧ v ≤ 60 * j + q ∧ Below w7.heap.size w7 wr)
            case atStart => exact ⟨0, u, rfl, Nat.zero_le _, rfl, rfl, hus0.out, hus, hbr0⟩
            case round =>
              clear hbr0 hus0 hbr
              obtain ⟨q, v, rfl, hq, rfl, rfl, hv, hv2, hbr⟩ := hrel
              have c0 := below_cell hbr (Nat.le_refl _) HRC.out
              by_cases hlq : q < r.n
              · obtain ⟨d, b1, o1, hd, hA1, _, hd8⟩ := rd8 hrok.out.rd q hlq
                have hdf := Lib.hid (hrok.out.fits d (List.mem_of_getElem? hd))
                obtain ⟨k0, k1, k2, k3, k4, k5, k6, k7⟩ := (hd8.below hbr).get
                rw [hA1] at c0
                have HLD := Lib.hid hA1
                have HD := Lib.hid hd
                clear hd hd8
                go_wp2_with fail
                obtain ⟨q2, hq2⟩ := one_box wr d.cells 35
                have hbx : At8 (wr.alloc (.cells d.cells 35)) wr.heap.size 0 d := fun i x hx => by rw [Nat.zero_add]; exact hq2 i x (by simpa [Cell.l] using hx)
                have hBb := Lib.hid (hbr.trans (q2.mono hbr.size))
                have HBX := Lib.hid hbx
                clear k0 k1 k2 k3 k4 k5 k6 k7 c0 q2 hq2 hbx hbr
                generalize wr.alloc (.cells d.cells 35) = Wb at *
                generalize wr.heap.size = bb at *
                have hq4 := Below.refl Wb.heap.size Wb
                go_loopg [10, 11] j (fun gk fi nn wx => ∃ (m : Nat) (f : Bool), nn = .int .i64 m ∧ fi = .bool f ∧ m ≤ j ∧ gk = j - m ∧ Hid (f = freeB (L.take m) d) ∧ Below Wb.heap.size Wb wx)
                case atStart => exact ⟨0, true, rfl, rfl, Nat.zero_le _, rfl, by simp [Hid, freeB], hq4⟩
                case round =>
                  clear hq4
                  obtain ⟨m, f, rfl, rfl, hm, rfl, hf, hb4⟩ := hrel
                  obtain ⟨wc, rfl⟩ : ∃ wc : World, wc = wr := ⟨_, rfl⟩
                  cases f with
                  | false =>
                    have hfree : Hid (freeB (L.take j) d = false) := freeB_less hm hf.out.symm
                    have hv' : Hid (v = u + ((r.xs.take (q + 1)).filter (freeB (L.take j))).length) := by
                      unfold Hid; rw [filter_take _ HD.out, hfree.out]; simpa using hv.out
                    have hbn := Lib.hid (hBb.out.trans (hb4.mono hBb.out.size))
                    clear hb4
                    by_cases hmj : m < j
                    all_goals
                      go_wp2
                      go_roundg (r.n - (q + 1))
                      case measure => omega
                      case rel => exact ⟨q + 1, v, by go_num, by omega, rfl, rfl, hv'.out, by omega, hbn.out⟩
                  | true =>
                    by_cases hmj : m < j
                    · obtain ⟨r2, b2, o2, hr2, hA2, _, hrc2⟩ := HM7.out.rd.get m (by omega)
                      injection hA2 with hA2
                      injection hA2 with e1 e2 _
                      subst e1; subst e2
                      have hb7 := Lib.hid (hBb.out.trans (hb4.mono hBb.out.size))
                      have c1 := below_cell hb7.out (Nat.le_refl _) (hrc2 0 _ rfl)
                      simp only [Nat.mul_one, Nat.add_zero] at c1
                      have hrok2 := Lib.hid (HM7.out.ok r2 (List.mem_of_getElem? hr2))
                      have hLm : Hid (L[m]? = some r2.xs) := by unfold Hid; rw [← hxs.out, List.getElem?_map, hr2]; rfl
                      have hr2n : r2.n ≤ 60 := by rw [hrok2.out.rd.len]; exact hL60.out _ (List.mem_of_getElem? hLm.out)
                      have hm0 : (0 : Int) ≤ (m : Int) := by omega
                      have hm1 : (m : Int) < (k : Int) := by omega
                      have C1 := Lib.hid c1
                      have HB4 := Lib.hid hb4
                      clear hr2 hrc2 c1 hb4
                      go_wp2_with fail
                      have hq5 := Below.refl wc.heap.size wc
                      go_loopg [10, 12] r2.n (fun gk fi pp wy => ∃ (p : Nat) (f2 : Bool), pp = .int .i64 p ∧ fi = .bool f2 ∧ p ≤ r2.n ∧ gk = r2.n - p ∧ Hid (f2 = noneB d (r2.xs.take p)) ∧ Below wc.heap.size wc wy)
                      case atStart => exact ⟨0, true, rfl, rfl, Nat.zero_le _, rfl, by simp [Hid, noneB], hq5⟩
                      case round =>
                        clear hq5
                        obtain ⟨p, f2, rfl, rfl, hp, rfl, hf2, hb5⟩ := hrel
                        obtain ⟨wd, rfl⟩ : ∃ wd : World, wd = wr := ⟨_, rfl⟩
                        have c2 := later_cell (below_cell hb5 (Nat.le_refl _) C1.out)
                        have c1 := below_cell hb5 (Nat.le_refl _) C1.out
                        by_cases hpn : p < r2.n
                        · obtain ⟨y, b3, o3, hy, hA3, _, hy8⟩ := rd8 hrok2.out.rd p hpn
                          have hyf := Lib.hid (hrok2.out.fits y (List.mem_of_getElem? hy))
                          have HY := Lib.hid hy
                          rw [hA3] at c1 c2
                          have hp0 : (0 : Int) ≤ (p : Int) := by omega
                          have hp1 : (p : Int) < (r2.n : Int) := by omega
                          have hnew : Hid (noneB d (r2.xs.take (p + 1)) = (noneB d (r2.xs.take p) && !decide (y.order d = 0))) := noneB_take hy
                          cases f2 with
                          | true =>
                            obtain ⟨k0, k1, k2, k3, k4, k5, k6, k7⟩ := ((hy8.below hb7.out).below hb5).later
                            obtain ⟨l0, l1, l2, l3, l4, l5, l6, l7⟩ := ((HBX.out.below HB4.out).below hb5).later
                            simp only [Nat.zero_add] at l1 l2 l3 l4 l5 l6 l7
                            obtain ⟨x, hx⟩ : ∃ x, x = y.order d := ⟨_, rfl⟩
                            have Hord : Hid (∀ X, Calls Tryd.prog 27 #[y.v, d.v] (wd.later X) fun e w'' => e = .returned (.int .i64 x) ∧ ∃ Y, w'' = wd.later Y) := fun X => by rw [hx]; exact calls_later (rorder_calls y d _ hyf.out.small' hdf.out.small')
                            have hX := Lib.hid hx
                            clear hy hy8 hx
                            by_cases hx0 : x = 0
                            · have hxb : (x != 0) = false := by simp [hx0]
                              have hx0 := Lib.hid hx0
                              have hnone : Hid (false = noneB d (r2.xs.take (p + 1))) := by
                                unfold Hid; rw [hnew.out, ← hX.out, hx0.out]; simp
                              go_wp2
                              refine wp_region_later (by kernel_rfl) (by kernel_rfl) ?_
                              repeat (go_big_quiet_step ((go_at_call 27; exact Hord.out _)))
                              refine wpQuiet_nil ?_
                              intro W6 hW6
                              have hb6 : Below wd.heap.size wd W6 := by
                                obtain ⟨X, rfl⟩ := hW6
                                exact later_below _ X
                              clear hW6 k0 k1 k2 k3 k4 k5 k6 k7 l0 l1 l2 l3 l4 l5 l6 l7 Hord c1 c2
                              have hb7' := hb5.trans (hb6.mono hb5.size)
                              clear hb5 hb6
                              go_wp2
                              go_roundg (r2.n - (p + 1))
                              case measure => omega
                              case rel => exact ⟨p + 1, false, by go_num, rfl, by omega, rfl, hnone.out, hb7'⟩
                            · have hxb : (x != 0) = true := by simp [hx0]
                              have hx0 := Lib.hid hx0
                              have hnone : Hid (true = noneB d (r2.xs.take (p + 1))) := by
                                unfold Hid; rw [hnew.out, ← hf2.out, ← hX.out, decide_eq_false hx0.out]; rfl
                              go_wp2
                              refine wp_region_later (by kernel_rfl) (by kernel_rfl) ?_
                              repeat (go_big_quiet_step ((go_at_call 27; exact Hord.out _)))
                              refine wpQuiet_nil ?_
                              intro W6 hW6
                              have hb6 : Below wd.heap.size wd W6 := by
                                obtain ⟨X, rfl⟩ := hW6
                                exact later_below _ X
                              clear hW6 k0 k1 k2 k3 k4 k5 k6 k7 l0 l1 l2 l3 l4 l5 l6 l7 Hord c1 c2
                              have hb7' := hb5.trans (hb6.mono hb5.size)
                              clear hb5 hb6
                              go_wp2
                              go_roundg (r2.n - (p + 1))
                              case measure => omega
                              case rel => exact ⟨p + 1, true, by go_num, rfl, by omega, rfl, hnone.out, hb7'⟩
                          | false =>
                            have hnone : Hid (false = noneB d (r2.xs.take (p + 1))) := by
                              unfold Hid; rw [hnew.out, ← hf2.out]; rfl
                            clear hy hy8
                            go_wp2
                            refine wp_region_later (by kernel_rfl) (by kernel_rfl) ?_
                            repeat (go_big_quiet_step (fail))
                            refine wpQuiet_nil ?_
                            intro W6 hW6
                            have hb6 : Below wd.heap.size wd W6 := by
                              obtain ⟨X, rfl⟩ := hW6
                              exact later_below _ X
                            clear hW6 c1 c2
                            have hb7' := hb5.trans (hb6.mono hb5.size)
                            clear hb5 hb6
                            go_wp2
                            go_roundg (r2.n - (p + 1))
                            case measure => omega
                            case rel => exact ⟨p + 1, false, by go_num, rfl, by omega, rfl, hnone.out, hb7'⟩
                        · obtain rfl : p = r2.n := by omega
                          have hfr : Hid (f2 = freeB (L.take (m + 1)) d) := by
                            unfold Hid
                            rw [freeB_take hLm.out, ← hf.out, Bool.true_and, hf2.out, List.take_of_length_le (by have := hrok2.out.rd.len; omega)]
                          have hb7' := Lib.hid (HB4.out.trans (hb5.mono HB4.out.size))
                          clear c2 hb5
                          go_wp2
                          go_roundg (j - (m + 1))
                          case measure => omega
                          case rel => exact ⟨m + 1, f2, by go_num, rfl, by omega, rfl, hfr.out, hb7'.out⟩
                    · obtain rfl : m = j := by omega
                      have hv' : Hid (v + 1 = u + ((r.xs.take (q + 1)).filter (freeB (L.take m))).length) := by
                        unfold Hid; rw [filter_take _ HD.out, ← hf.out, if_pos rfl]; have := hv.out; omega
                      have hmem : Hid (d ∈ o) := told_of hR.out.rises HMG.out hLj.out (List.mem_of_getElem? HD.out) hf.out.symm
                      have hbn := Lib.hid (hBb.out.trans (hb4.mono hBb.out.size))
                      have HB4 := Lib.hid hb4
                      clear hb4
                      go_wp2_with fail
                      have hq5 := Below.refl wc.heap.size wc
                      go_loopg [13, 14] n6 (fun gk td pp wy => ∃ (p : Nat) (f2 : Bool), pp = .int .i64 p ∧ td = .bool f2 ∧ p ≤ n6 ∧ gk = n6 - p ∧ Hid (f2 = toldB d (o.take p)) ∧ Below wc.heap.size wc wy)
                      case atStart => exact ⟨0, false, rfl, rfl, Nat.zero_le _, rfl, by simp [Hid, toldB], hq5⟩
                      case round =>
                        clear hq5
                        obtain ⟨p, f2, rfl, rfl, hp, rfl, hf2, hb5⟩ := hrel
                        obtain ⟨wd, rfl⟩ : ∃ wd : World, wd = wr := ⟨_, rfl⟩
                        by_cases hpn : p < n6
                        · obtain ⟨y, b3, o3, hy, hA3, _, hy8⟩ := rd8 (((HO7.out.below hbn.out).below hb5)) p hpn
                          subst hA3
                          have hnew : Hid (toldB d (o.take (p + 1)) = (toldB d (o.take p) || y.beq d)) := toldB_take hy
                          have hp0 : (0 : Int) ≤ (p : Int) := by omega
                          have hp1 : (p : Int) < (n6 : Int) := by omega
                          cases f2 with
                          | true =>
                            have hnone : Hid (true = toldB d (o.take (p + 1))) := by
                              unfold Hid; rw [hnew.out, ← hf2.out]; rfl
                            clear hy hy8
                            go_wp2
                            go_quiet (fail)
                            have hbq := hb5.trans ((below_drewN wd nq).mono hb5.size)
                            go_wp2
                            go_roundg (n6 - (p + 1))
                            case measure => omega
                            case rel => exact ⟨p + 1, true, by go_num, rfl, by omega, rfl, hnone.out, hbq⟩
                          | false =>
                            obtain ⟨k0, k1, k2, k3, k4, k5, k6, k7⟩ := hy8.get
                            obtain ⟨l0, l1, l2, l3, l4, l5, l6, l7⟩ := ((HBX.out.below HB4.out).below hb5).get
                            simp only [Nat.zero_add] at l1 l2 l3 l4 l5 l6 l7
                            clear hy hy8
                            cases heq : y.beq d with
                            | true =>
                              have hnone : Hid (true = toldB d (o.take (p + 1))) := by
                                unfold Hid; rw [hnew.out, heq, Bool.or_true]
                              unfold Cell.beq at heq
                              go_wp2
                              go_quiet (fail)
                              have hbq := hb5.trans ((below_drewN wd nq).mono hb5.size)
                              clear k0 k1 k2 k3 k4 k5 k6 k7 l0 l1 l2 l3 l4 l5 l6 l7 heq
                              go_wp2
                              go_roundg (n6 - (p + 1))
                              case measure => omega
                              case rel => exact ⟨p + 1, true, by go_num, rfl, by omega, rfl, hnone.out, hbq⟩
                            | false =>
                              have hnone : Hid (false = toldB d (o.take (p + 1))) := by
                                unfold Hid; rw [hnew.out, heq, ← hf2.out]; rfl
                              unfold Cell.beq at heq
                              go_wp2
                              go_quiet (fail)
                              have hbq := hb5.trans ((below_drewN wd nq).mono hb5.size)
                              clear k0 k1 k2 k3 k4 k5 k6 k7 l0 l1 l2 l3 l4 l5 l6 l7 heq
                              go_wp2
                              go_roundg (n6 - (p + 1))
                              case measure => omega
                              case rel => exact ⟨p + 1, false, by go_num, rfl, by omega, rfl, hnone.out, hbq⟩
                        · obtain rfl : p = n6 := by omega
                          have hf3 : f2 = true := by
                            rw [hf2.out, List.take_of_length_le (by have := HN6.out; omega)]
                            exact toldB_mem hmem.out
                          subst hf3
                          have hbe := Lib.hid (hbn.out.trans (hb5.mono hbn.out.size))
                          clear hb5
                          go_wp2
                          go_roundg (r.n - (q + 1))
                          case measure => omega
                          case rel => exact ⟨q + 1, v + 1, by go_num, by omega, rfl, by go_num, hv'.out, by omega, hbe.out⟩
              · obtain rfl : q = r.n := by omega
                have hus' : Hid (v = usedC L (j + 1)) := by
                  have e : r.xs.take r.n = r.xs := List.take_of_length_le (by have := hrok.out.rd.len; omega)
                  unfold Hid
                  rw [usedC, firstsC_eq hLj.out, hv.out, husd.out, e]
                go_wp2
                go_roundg (k - (j + 1))
                case measure => omega
                case rel => exact ⟨j + 1, v, by go_num, by omega, rfl, rfl, hus'.out, by omega, hbr⟩
          · obtain rfl : j = k := by omega
            have hfin : u = n6 := by rw [husd.out, HL.out, used_all hR.out.rises HMG.out, HN6.out]
            subst hfin
            clear husd
            go_wp2
            go_ret
            exact ⟨rfl, HB7.out.trans (hbr.mono HB7.out.size)⟩
end Go.Proofs.YtmabmnkdigdaiaaDoor
