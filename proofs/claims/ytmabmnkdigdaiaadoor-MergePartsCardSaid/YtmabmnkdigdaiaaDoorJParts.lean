/-
  MergeParts, walked: whatever the runs and the place, it answers true and turns nothing that was there.
-/
import Derived.Test.YtmabmnkdigdaiaaDoorJAliveW
import Derived.Outline
namespace Go.Proofs.YtmabmnkdigdaiaaDoor
open Go.RowKit

set_option maxHeartbeats 2000000 in
theorem parts_calls (A0 : Option Addr) (n c0 : Nat) (rows : List Row) (at_ : Int) (w : World) (hx : ArgRows w A0 n rows) (hat : isInt at_) (hT : Lib.Utf8Tabs 1 2 w) :
    Calls Tryd.prog 5 #[.slice A0 n c0, .int .i64 at_] w fun e w' => e = .returned (.bool true) ∧ Below w.heap.size w w' := by
  have HT := Lib.hid hT
  have HX := Lib.hid hx
  have hfew := hx.few
  have hlen := Lib.hid hx.rd.len
  clear hT hx
  have halive := Lib.hid (alive_calls w HT.out)
  cases hg : greatC rows with
  | true =>
    have hg := Lib.hid hg
    go_enter Tryd.func5, Tryd.ntmps5
    go_wp2_with (first
      | (go_at_call 8; refine halive.out.mono ?_; clear halive; rintro e w1 ⟨rfl, hb1⟩; have hgr := Lib.hid (great_calls A0 n c0 rows w1 (HX.out.below hb1).rd (fun r hr => ⟨((HX.out.below hb1).ok r hr).1, ((HX.out.below hb1).ok r hr).2.1⟩) hfew))
      | (go_at_call 9; refine hgr.out.mono ?_; clear hgr; rw [hg.out]; rintro e w2 ⟨rfl, rfl⟩))
    go_ret
    exact ⟨rfl, hb1⟩
  | false =>
    have hR := Lib.hid (runs_of hg HX.out)
    obtain ⟨hn12, hr60⟩ := great_no hg
    have hg := Lib.hid hg
    have hr60 := Lib.hid hr60
    have hn12' : n ≤ 12 := by have := hlen.out; omega
    clear hn12
    by_cases h0 : at_ < 0
    · go_enter Tryd.func5, Tryd.ntmps5
      go_wp2_with (first
        | (go_at_call 8; refine halive.out.mono ?_; clear halive; rintro e w1 ⟨rfl, hb1⟩; have hgr := Lib.hid (great_calls A0 n c0 rows w1 (HX.out.below hb1).rd (fun r hr => ⟨((HX.out.below hb1).ok r hr).1, ((HX.out.below hb1).ok r hr).2.1⟩) hfew))
        | (go_at_call 9; refine hgr.out.mono ?_; clear hgr; rw [hg.out]; rintro e w2 ⟨rfl, rfl⟩))
      go_ret
      exact ⟨rfl, hb1⟩
    by_cases h1 : (n : Int) < at_
    · go_enter Tryd.func5, Tryd.ntmps5
      go_wp2_with (first
        | (go_at_call 8; refine halive.out.mono ?_; clear halive; rintro e w1 ⟨rfl, hb1⟩; have hgr := Lib.hid (great_calls A0 n c0 rows w1 (HX.out.below hb1).rd (fun r hr => ⟨((HX.out.below hb1).ok r hr).1, ((HX.out.below hb1).ok r hr).2.1⟩) hfew))
        | (go_at_call 9; refine hgr.out.mono ?_; clear hgr; rw [hg.out]; rintro e w2 ⟨rfl, rfl⟩))
      go_ret
      exact ⟨rfl, hb1⟩
    obtain ⟨q, rfl⟩ : ∃ q : Nat, at_ = q := ⟨at_.toNat, by omega⟩
    have hq : q ≤ n := by omega
    have hq' : ¬ (n : Int) < (q : Int) := h1
    have hd1 : decide ((q : Int) < 0) = false := decide_eq_false h0
    have hd2 : decide (n < q) = false := decide_eq_false (by omega)
    clear h0 h1 hat
    go_enter Tryd.func5, Tryd.ntmps5
    go_wp2_with (first
      | (go_at_call 8; refine halive.out.mono ?_; clear halive; rintro e w1 ⟨rfl, hb1⟩; have hgr := Lib.hid (great_calls A0 n c0 rows w1 (HX.out.below hb1).rd (fun r hr => ⟨((HX.out.below hb1).ok r hr).1, ((HX.out.below hb1).ok r hr).2.1⟩) hfew))
      | (go_at_call 9; refine hgr.out.mono ?_; clear hgr; rw [hg.out]; rintro e w2 ⟨rfl, rfl⟩))
    have HX1 := Lib.hid (HX.out.below hb1)
    have HT1 := Lib.hid (tabs_below HT.out hb1)
    have hat0 := RunsAt.lit w2
    have hb0 := (Below.refl w2.heap.size w2).alloc (Nat.le_refl _) (.cells #[] 23)
    generalize w2.alloc (.cells #[] 23) = W0 at *
    go_loopg [5, 6] n (fun gk rs i wr => ∃ (k cap : Nat) (A : Option Addr) (out : List Row), i = .int .i64 k ∧ k ≤ n ∧ gk = n - k ∧ rs = .slice A k cap ∧ RunsAt w2.heap.size A k cap out wr ∧ Hid (out.map Row.xs = (rows.take k).map (fun r => sortC r.xs)) ∧ Below w2.heap.size w2 wr)
    case atStart => exact ⟨0, 0, _, [], rfl, Nat.zero_le _, rfl, rfl, hat0, rfl, hb0⟩
    case round =>
      clear hat0 hb0
      obtain ⟨k, cap, A, out, rfl, hk, rfl, rfl, hat, hout, hb⟩ := hrel
      by_cases hlt : k < n
      · obtain ⟨r, b, off, hr, rfl, _, hrc⟩ := HX1.out.rd.get k hlt
        have c0 := below_cell hb (Nat.le_refl _) (hrc 0 _ rfl)
        simp only [Nat.mul_one, Nat.add_zero] at c0
        have hro := Lib.hid ((HX1.out.below hb).ok r (List.mem_of_getElem? hr))
        have hrl := Lib.hid (hr60.out r (List.mem_of_getElem? hr))
        have hsort := Lib.hid (rsort_calls r.A r.n r.cap r.xs wr hro.out.1 (by rw [hro.out.1.len]; have := hrl.out; omega) hro.out.2.2.2.2)
        have HR := Lib.hid hr
        clear hrc hr
        go_wp2_with (first
          | (go_at_call 25; refine hsort.out.mono ?_; clear hsort; rintro e w3 ⟨A', m', cap', rfl, hown, hb2⟩; have hown := Lib.hid hown; have hat2 := Lib.hid (hat.below hb2); have hsz2 := Nat.le_trans hb.size hb2.size)
          | (at_builtin; refine app_row rfl (.tmp 30) (.tmp 36) rfl ⟨A', m', cap', sortC r.xs⟩ rfl hat2.out.1 rfl rfl (by omega) hsz2 ?_; intro g cap3 w5 h1 h2 h3 h4))
        go_roundg (n - (k + 1))
        case measure => omega
        case rel =>
          refine ⟨k + 1, cap3, some ⟨g, 0, none⟩, out ++ [⟨A', m', cap', sortC r.xs⟩], by go_num, by omega, rfl, rfl, hat2.out.snoc hown.out (fun g hg => ((hat.lt g hg).2)) hb.size ?_ ?_ h1 h2 (h3.imp id Nat.le_of_lt), ?_, ?_⟩
          · have := sortC_len _ r.xs rfl; have := hrl.out; omega
          · exact fun c hc => hro.out.2.2.2.2 c (sortC_mem _ r.xs rfl c hc)
          · unfold Hid; rw [List.map_append, hout.out, List.take_add_one, HR.out]; simp
          · exact (hb.trans (hb2.mono hb.size)).trans (h2.below hsz2 (fun i hi => by have := (hat2.out.lt i hi).1; omega))
      · obtain rfl : k = n := by omega
        have hbeg : Hid (begL out = rows.map fun r => sortC r.xs) := by
          refine begL_sort ?_
          have := hout.out
          rwa [List.take_of_length_le (by have := hlen.out; omega)] at this
        have hcap := own_room hat.1
        have HB := Lib.hid hb
        have HTr := Lib.hid (tabs_below HT1.out hb)
        have HAT := Lib.hid hat
        have hsz := hb.size
        clear hout hb hlt
        obtain ⟨L, hL⟩ : ∃ L, L = rows.map fun r => sortC r.xs := ⟨_, rfl⟩
        rw [← hL] at hbeg hR
        clear hL
        have hb1q : Hid (begL (out.take q) = L.take q) := by
          unfold Hid; rw [← hbeg.out]; unfold begL; rw [List.map_take]
        have hb2q : Hid (begL (out.drop q) = L.drop q) := by
          unfold Hid; rw [← hbeg.out]; unfold begL; rw [List.map_drop]
        have hn0 := HAT.out.1.1
        have hq0 : (0 : Int) ≤ (q : Int) := by omega
        have hqc : (q : Int) ≤ (cap : Int) := by omega
        have hqn : (q : Int) ≤ (k : Int) := by omega
        have HN0 := Lib.hid hn0
        clear hn0
        have hcl : Hid (∀ M, M.Sublist L → leftC M ≤ 1000000) := fun M hM => Nat.le_trans (hR.out.sub hM).few (by omega)
        rcases HAT.out.1.shape with ⟨hA, ho⟩ | ⟨g, hA, hg1, hg2⟩
        · have hc0 := own_nil HAT.out.1 hA
          have H0 : Hid (RdRows wr none 0 out) := by subst ho; exact rows_none
          have H1 : Hid (RdRows wr none 0 (out.take q)) := by subst ho; rw [List.take_nil]; exact rows_none
          have H2 : Hid (RdRows wr none 0 (out.drop q)) := by subst ho; rw [List.drop_nil]; exact rows_none
          have hk0 : k = 0 := by rw [HN0.out, ho]; rfl
          subst hc0; subst hA; subst hk0
          obtain rfl : q = 0 := by omega
          clear HAT hat ho HN0 hcap
          go_wp2_with fail
          refine (merge_calls _ _ _ _ _ H1.out (by omega) (by rw [hb1q.out]; exact hcl.out _ (List.take_sublist _ _)) HTr.out).mono ?_
          rintro e w3 ⟨o1, hm1, B1, m1, d1, rfl, hown1, hb3⟩
          rw [hb1q.out] at hm1
          have HM1 := Lib.hid hm1
          have H2a := Lib.hid (H2.out.below hb3)
          have H0a := Lib.hid (H0.out.below hb3)
          have HT3 := Lib.hid (tabs_below HTr.out hb3)
          have HB3 := Lib.hid (HB.out.trans (hb3.mono HB.out.size))
          have HO1 := Lib.hid hown1
          clear hm1 hb3 hown1 H1 H2 H0 HTr HB
          go_wp2_with fail
          refine (merge_calls _ _ _ _ _ H2a.out (by omega) (by rw [hb2q.out]; exact hcl.out _ (List.drop_sublist _ _)) HT3.out).mono ?_
          rintro e w4 ⟨o2, hm2, B2, m2, d2, rfl, hown2, hb4⟩
          rw [hb2q.out] at hm2
          have HM2 := Lib.hid hm2
          have H0b := Lib.hid (H0a.out.below hb4)
          have HT4 := Lib.hid (tabs_below HT3.out hb4)
          have HB4 := Lib.hid (HB3.out.trans (hb4.mono HB3.out.size))
          have HO1b := Lib.hid (HO1.out.below hb4)
          have HO2 := Lib.hid hown2
          clear hm2 hb4 hown2 H2a H0a HT3 HB3 HO1
          have q1 := Lib.hid ((hR.out.sub (List.take_sublist _ _)).merged HM1.out)
          have q2 := Lib.hid ((hR.out.sub (List.drop_sublist _ _)).merged HM2.out)
          have hb5 := (Below.refl w4.heap.size w4).alloc (Nat.le_refl _) (.cells #[.slice B1 m1 d1, .slice B2 m2 d2] 23)
          have hlit := Lib.hid (rows_two (r := ⟨B1, m1, d1, o1⟩) (q := ⟨B2, m2, d2, o2⟩) (heap_alloc_new w4 (.cells #[.slice B1 m1 d1, .slice B2 m2 d2] 23)) (own_row (HO1b.out.below hb5) (by have := q1.out.2.2.2.1; omega) q1.out.2.2.1) (own_row (HO2.out.below hb5) (by have := q2.out.2.2.2.1; omega) q2.out.2.2.1))
          have hbl : Hid (begL [⟨B1, m1, d1, o1⟩, ⟨B2, m2, d2, o2⟩] = [o1, o2]) := by
            show [begC o1, begC o2] = _
            rw [q1.out.2.2.2.2, q2.out.2.2.2.2]
          have H0c := Lib.hid (H0b.out.below hb5)
          have HT5 := Lib.hid (tabs_below HT4.out hb5)
          have HB5 := Lib.hid (HB4.out.trans (hb5.mono HB4.out.size))
          clear hb5 H0b HT4 HB4 HO1b HO2
          go_wp2_with fail
          refine (merge_calls _ _ _ _ _ hlit.out (by omega) (by rw [hbl.out]; unfold leftC; have := q1.out.2.2.2.1; have := q2.out.2.2.2.1; simp; omega) HT5.out).mono ?_
          rintro e w6 ⟨o3, hm3, B3, m3, d3, rfl, hown3, hb6⟩
          rw [hbl.out] at hm3
          have HM3 := Lib.hid hm3
          have H0d := Lib.hid (H0c.out.below hb6)
          have HT6 := Lib.hid (tabs_below HT5.out hb6)
          have HB6 := Lib.hid (HB5.out.trans (hb6.mono HB5.out.size))
          have HO3 := Lib.hid hown3
          clear hm3 hb6 hown3 H0c HT5 HB5 hlit hbl
          go_wp2_with fail
          refine (merge_calls _ _ _ _ _ H0d.out (by omega) (by rw [hbeg.out]; exact hcl.out _ (List.Sublist.refl _)) HT6.out).mono ?_
          rintro e w7 ⟨o4, hm4, B4, m4, d4, rfl, hown4, hb7⟩
          rw [hbeg.out] at hm4
          have hfin : Hid (o3 = o4) := merged_parts hR.out.rises HM1.out HM2.out HM3.out hm4
          have q4 := Lib.hid (hR.out.merged hm4)
          have HB7 := Lib.hid (HB6.out.trans (hb7.mono HB6.out.size))
          have hrd3 := Lib.hid ((HO3.out.below hb7).rd Cell.l_len)
          have hrd4 := Lib.hid (hown4.rd Cell.l_len)
          have hlen4 : Hid (m4 = o4.length) := hown4.1
          have hlen3 : Hid (m3 = o3.length) := HO3.out.1
          clear hm4 hb7 hown4 H0d HT6 HB6 HO3
          go_wp2_with fail
          refine (same_calls B3 B4 m3 m4 d3 d4 o3 o4 _ hrd3.out hrd4.out (by rw [hlen3.out, hfin.out]; have := q4.out.2.2.2.1; omega) (by rw [hlen4.out]; have := q4.out.2.2.2.1; omega)).mono ?_
          rintro e w8 ⟨rfl, nq, rfl⟩
          rw [decide_eq_true hfin.out]
          go_wp2
          go_ret
          exact ⟨rfl, (hb1.trans (HB7.out.mono hb1.size)).trans ((below_drewN w7 nq).mono (Nat.le_trans hb1.size HB7.out.size))⟩
        · subst hA
          have H0 := Lib.hid HAT.out.rows
          by_cases hqcap : q = cap
          · have H1 := Lib.hid (rows_take HAT.out.rows q hq)
            have H2 : Hid (RdRows wr (some ⟨g, 0, none⟩) 0 (out.drop q)) := by
              have : out.drop q = [] := List.drop_eq_nil_of_le (by have := HN0.out; omega)
              rw [this]; exact rows_none
            have hkq : k = q := by omega
            clear HAT hat HN0
            subst hqcap; subst hkq
            clear hcap hq hqc hqn hd2 hq'
            go_wp2_with fail
            refine (merge_calls _ _ _ _ _ H1.out (by omega) (by rw [hb1q.out]; exact hcl.out _ (List.take_sublist _ _)) HTr.out).mono ?_
            rintro e w3 ⟨o1, hm1, B1, m1, d1, rfl, hown1, hb3⟩
            rw [hb1q.out] at hm1
            have HM1 := Lib.hid hm1
            have H2a := Lib.hid (H2.out.below hb3)
            have H0a := Lib.hid (H0.out.below hb3)
            have HT3 := Lib.hid (tabs_below HTr.out hb3)
            have HB3 := Lib.hid (HB.out.trans (hb3.mono HB.out.size))
            have HO1 := Lib.hid hown1
            clear hm1 hb3 hown1 H1 H2 H0 HTr HB
            go_wp2_with fail
            refine (merge_calls _ _ _ _ _ H2a.out (by omega) (by rw [hb2q.out]; exact hcl.out _ (List.drop_sublist _ _)) HT3.out).mono ?_
            rintro e w4 ⟨o2, hm2, B2, m2, d2, rfl, hown2, hb4⟩
            rw [hb2q.out] at hm2
            have HM2 := Lib.hid hm2
            have H0b := Lib.hid (H0a.out.below hb4)
            have HT4 := Lib.hid (tabs_below HT3.out hb4)
            have HB4 := Lib.hid (HB3.out.trans (hb4.mono HB3.out.size))
            have HO1b := Lib.hid (HO1.out.below hb4)
            have HO2 := Lib.hid hown2
            clear hm2 hb4 hown2 H2a H0a HT3 HB3 HO1
            have q1 := Lib.hid ((hR.out.sub (List.take_sublist _ _)).merged HM1.out)
            have q2 := Lib.hid ((hR.out.sub (List.drop_sublist _ _)).merged HM2.out)
            have hb5 := (Below.refl w4.heap.size w4).alloc (Nat.le_refl _) (.cells #[.slice B1 m1 d1, .slice B2 m2 d2] 23)
            have hlit := Lib.hid (rows_two (r := ⟨B1, m1, d1, o1⟩) (q := ⟨B2, m2, d2, o2⟩) (heap_alloc_new w4 (.cells #[.slice B1 m1 d1, .slice B2 m2 d2] 23)) (own_row (HO1b.out.below hb5) (by have := q1.out.2.2.2.1; omega) q1.out.2.2.1) (own_row (HO2.out.below hb5) (by have := q2.out.2.2.2.1; omega) q2.out.2.2.1))
            have hbl : Hid (begL [⟨B1, m1, d1, o1⟩, ⟨B2, m2, d2, o2⟩] = [o1, o2]) := by
              show [begC o1, begC o2] = _
              rw [q1.out.2.2.2.2, q2.out.2.2.2.2]
            have H0c := Lib.hid (H0b.out.below hb5)
            have HT5 := Lib.hid (tabs_below HT4.out hb5)
            have HB5 := Lib.hid (HB4.out.trans (hb5.mono HB4.out.size))
            clear hb5 H0b HT4 HB4 HO1b HO2
            go_wp2_with fail
            refine (merge_calls _ _ _ _ _ hlit.out (by omega) (by rw [hbl.out]; unfold leftC; have := q1.out.2.2.2.1; have := q2.out.2.2.2.1; simp; omega) HT5.out).mono ?_
            rintro e w6 ⟨o3, hm3, B3, m3, d3, rfl, hown3, hb6⟩
            rw [hbl.out] at hm3
            have HM3 := Lib.hid hm3
            have H0d := Lib.hid (H0c.out.below hb6)
            have HT6 := Lib.hid (tabs_below HT5.out hb6)
            have HB6 := Lib.hid (HB5.out.trans (hb6.mono HB5.out.size))
            have HO3 := Lib.hid hown3
            clear hm3 hb6 hown3 H0c HT5 HB5 hlit hbl
            go_wp2_with fail
            refine (merge_calls _ _ _ _ _ H0d.out (by omega) (by rw [hbeg.out]; exact hcl.out _ (List.Sublist.refl _)) HT6.out).mono ?_
            rintro e w7 ⟨o4, hm4, B4, m4, d4, rfl, hown4, hb7⟩
            rw [hbeg.out] at hm4
            have hfin : Hid (o3 = o4) := merged_parts hR.out.rises HM1.out HM2.out HM3.out hm4
            have q4 := Lib.hid (hR.out.merged hm4)
            have HB7 := Lib.hid (HB6.out.trans (hb7.mono HB6.out.size))
            have hrd3 := Lib.hid ((HO3.out.below hb7).rd Cell.l_len)
            have hrd4 := Lib.hid (hown4.rd Cell.l_len)
            have hlen4 : Hid (m4 = o4.length) := hown4.1
            have hlen3 : Hid (m3 = o3.length) := HO3.out.1
            clear hm4 hb7 hown4 H0d HT6 HB6 HO3
            go_wp2_with fail
            refine (same_calls B3 B4 m3 m4 d3 d4 o3 o4 _ hrd3.out hrd4.out (by rw [hlen3.out, hfin.out]; have := q4.out.2.2.2.1; omega) (by rw [hlen4.out]; have := q4.out.2.2.2.1; omega)).mono ?_
            rintro e w8 ⟨rfl, nq, rfl⟩
            rw [decide_eq_true hfin.out]
            go_wp2
            go_ret
            exact ⟨rfl, (hb1.trans (HB7.out.mono hb1.size)).trans ((below_drewN w7 nq).mono (Nat.le_trans hb1.size HB7.out.size))⟩
          · have H1 := Lib.hid (rows_take HAT.out.rows q hq)
            have H2 : Hid (RdRows wr (some ⟨g, q, none⟩) (k - q) (out.drop q)) := by have := rows_drop HAT.out.rows q hq; rwa [Nat.zero_add] at this
            clear HAT hat HN0
            go_wp2_with fail
            refine (merge_calls _ _ _ _ _ H1.out (by omega) (by rw [hb1q.out]; exact hcl.out _ (List.take_sublist _ _)) HTr.out).mono ?_
            rintro e w3 ⟨o1, hm1, B1, m1, d1, rfl, hown1, hb3⟩
            rw [hb1q.out] at hm1
            have HM1 := Lib.hid hm1
            have H2a := Lib.hid (H2.out.below hb3)
            have H0a := Lib.hid (H0.out.below hb3)
            have HT3 := Lib.hid (tabs_below HTr.out hb3)
            have HB3 := Lib.hid (HB.out.trans (hb3.mono HB.out.size))
            have HO1 := Lib.hid hown1
            clear hm1 hb3 hown1 H1 H2 H0 HTr HB
            go_wp2_with fail
            refine (merge_calls _ _ _ _ _ H2a.out (by omega) (by rw [hb2q.out]; exact hcl.out _ (List.drop_sublist _ _)) HT3.out).mono ?_
            rintro e w4 ⟨o2, hm2, B2, m2, d2, rfl, hown2, hb4⟩
            rw [hb2q.out] at hm2
            have HM2 := Lib.hid hm2
            have H0b := Lib.hid (H0a.out.below hb4)
            have HT4 := Lib.hid (tabs_below HT3.out hb4)
            have HB4 := Lib.hid (HB3.out.trans (hb4.mono HB3.out.size))
            have HO1b := Lib.hid (HO1.out.below hb4)
            have HO2 := Lib.hid hown2
            clear hm2 hb4 hown2 H2a H0a HT3 HB3 HO1
            have q1 := Lib.hid ((hR.out.sub (List.take_sublist _ _)).merged HM1.out)
            have q2 := Lib.hid ((hR.out.sub (List.drop_sublist _ _)).merged HM2.out)
            have hb5 := (Below.refl w4.heap.size w4).alloc (Nat.le_refl _) (.cells #[.slice B1 m1 d1, .slice B2 m2 d2] 23)
            have hlit := Lib.hid (rows_two (r := ⟨B1, m1, d1, o1⟩) (q := ⟨B2, m2, d2, o2⟩) (heap_alloc_new w4 (.cells #[.slice B1 m1 d1, .slice B2 m2 d2] 23)) (own_row (HO1b.out.below hb5) (by have := q1.out.2.2.2.1; omega) q1.out.2.2.1) (own_row (HO2.out.below hb5) (by have := q2.out.2.2.2.1; omega) q2.out.2.2.1))
            have hbl : Hid (begL [⟨B1, m1, d1, o1⟩, ⟨B2, m2, d2, o2⟩] = [o1, o2]) := by
              show [begC o1, begC o2] = _
              rw [q1.out.2.2.2.2, q2.out.2.2.2.2]
            have H0c := Lib.hid (H0b.out.below hb5)
            have HT5 := Lib.hid (tabs_below HT4.out hb5)
            have HB5 := Lib.hid (HB4.out.trans (hb5.mono HB4.out.size))
            clear hb5 H0b HT4 HB4 HO1b HO2
            go_wp2_with fail
            refine (merge_calls _ _ _ _ _ hlit.out (by omega) (by rw [hbl.out]; unfold leftC; have := q1.out.2.2.2.1; have := q2.out.2.2.2.1; simp; omega) HT5.out).mono ?_
            rintro e w6 ⟨o3, hm3, B3, m3, d3, rfl, hown3, hb6⟩
            rw [hbl.out] at hm3
            have HM3 := Lib.hid hm3
            have H0d := Lib.hid (H0c.out.below hb6)
            have HT6 := Lib.hid (tabs_below HT5.out hb6)
            have HB6 := Lib.hid (HB5.out.trans (hb6.mono HB5.out.size))
            have HO3 := Lib.hid hown3
            clear hm3 hb6 hown3 H0c HT5 HB5 hlit hbl
            go_wp2_with fail
            refine (merge_calls _ _ _ _ _ H0d.out (by omega) (by rw [hbeg.out]; exact hcl.out _ (List.Sublist.refl _)) HT6.out).mono ?_
            rintro e w7 ⟨o4, hm4, B4, m4, d4, rfl, hown4, hb7⟩
            rw [hbeg.out] at hm4
            have hfin : Hid (o3 = o4) := merged_parts hR.out.rises HM1.out HM2.out HM3.out hm4
            have q4 := Lib.hid (hR.out.merged hm4)
            have HB7 := Lib.hid (HB6.out.trans (hb7.mono HB6.out.size))
            have hrd3 := Lib.hid ((HO3.out.below hb7).rd Cell.l_len)
            have hrd4 := Lib.hid (hown4.rd Cell.l_len)
            have hlen4 : Hid (m4 = o4.length) := hown4.1
            have hlen3 : Hid (m3 = o3.length) := HO3.out.1
            clear hm4 hb7 hown4 H0d HT6 HB6 HO3
            go_wp2_with fail
            refine (same_calls B3 B4 m3 m4 d3 d4 o3 o4 _ hrd3.out hrd4.out (by rw [hlen3.out, hfin.out]; have := q4.out.2.2.2.1; omega) (by rw [hlen4.out]; have := q4.out.2.2.2.1; omega)).mono ?_
            rintro e w8 ⟨rfl, nq, rfl⟩
            rw [decide_eq_true hfin.out]
            go_wp2
            go_ret
            exact ⟨rfl, (hb1.trans (HB7.out.mono hb1.size)).trans ((below_drewN w7 nq).mono (Nat.le_trans hb1.size HB7.out.size))⟩
end Go.Proofs.YtmabmnkdigdaiaaDoor
