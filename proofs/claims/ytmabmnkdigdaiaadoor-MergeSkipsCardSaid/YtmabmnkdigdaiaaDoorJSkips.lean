/-
  MergeSkips, walked: whatever the runs and the cell, it answers true and turns nothing that was there.
-/
import Derived.Test.YtmabmnkdigdaiaaDoorJAliveW
import Derived.Outline
namespace Go.Proofs.YtmabmnkdigdaiaaDoor
open Go.RowKit

theorem long_one (c : Cell) : longC [c] 1 = c.long := by simp [longC]
/-- What is still to come. -/
def restC (c : Cell) (o : List Cell) (k : Nat) : List Cell := (o.drop k).filter fun y => !decide (y.order c < 0)
theorem restC_skip {c d : Cell} {o : List Cell} {k : Nat} (h : o[k]? = some d) (hd : d.order c < 0) : restC c o (k + 1) = restC c o k := by
  have hlt := (List.getElem?_eq_some_iff.1 h).1
  unfold restC
  rw [List.drop_eq_getElem_cons hlt, List.filter_cons, (List.getElem?_eq_some_iff.1 h).2]
  simp [hd]
theorem restC_next {c d : Cell} {o : List Cell} {k : Nat} (h : o[k]? = some d) (hd : ¬ d.order c < 0) : restC c o k = d :: restC c o (k + 1) := by
  have hlt := (List.getElem?_eq_some_iff.1 h).1
  unfold restC
  rw [List.drop_eq_getElem_cons hlt, List.filter_cons, (List.getElem?_eq_some_iff.1 h).2]
  simp [hd]
theorem merged_cons {L : List (List Cell)} {d : Cell} {r : List Cell} (h : Merged L (d :: r)) : ∃ t, IsBest L t d ∧ Merged (nextD d L) r := by
  cases h with
  | step h1 h2 => exact ⟨_, h1, h2⟩
theorem merged_nil {L : List (List Cell)} (h : Merged L []) : ∀ l ∈ L, l = [] := by
  cases h with
  | done h1 => exact h1
theorem left_zero {L : List (List Cell)} (h : ∀ l ∈ L, l = []) : leftC L = 0 := by
  unfold leftC
  induction L with
  | nil => rfl
  | cons a L ih =>
    rw [List.map_cons, List.sum_cons, h a (by simp), ih (fun l hl => h l (by simp [hl]))]
    rfl

attribute [local go_sem high] eqCell
set_option maxHeartbeats 2000000 in
theorem skips_calls (A0 : Option Addr) (n c0 : Nat) (rows : List Row) (c : Cell) (w : World) (hx : ArgRows w A0 n rows) (hc : c.fits) (hT : Lib.Utf8Tabs 1 2 w) :
    Calls Tryd.prog 6 #[.slice A0 n c0, c.v] w fun e w' => e = .returned (.bool true) ∧ Below w.heap.size w w' := by
  obtain ⟨hb0, hbox0⟩ := one_box w c.cells 35
  have HB0 := Lib.hid hb0
  have HT := Lib.hid (tabs_below hT hb0)
  have HX := Lib.hid (hx.below hb0)
  have hfew := hx.few
  have hlen := Lib.hid hx.rd.len
  have hbox : At8 (w.alloc (.cells c.cells 35)) w.heap.size 0 c := fun j v hv => by rw [Nat.zero_add]; exact hbox0 j v (by simpa [Cell.l] using hv)
  have HBX := Lib.hid hbox
  have HC := Lib.hid hc
  clear hT hx hc hbox hbox0
  cases hg : greatC rows with
  | true =>
    have hg := Lib.hid hg
    go_enter Tryd.func6, Tryd.ntmps6
    go_wp2_with fail
    refine (alive_calls _ HT.out).mono ?_; rintro e w1 ⟨rfl, hb1⟩
    go_wp2_with fail
    refine (great_calls A0 n c0 rows w1 (HX.out.below hb1).rd (fun r hr => ⟨((HX.out.below hb1).ok r hr).1, ((HX.out.below hb1).ok r hr).2.1⟩) hfew).mono ?_; rw [hg.out]; rintro e w2 ⟨rfl, rfl⟩
    go_wp2
    go_ret
    exact ⟨rfl, hb0.trans (hb1.mono hb0.size)⟩
  | false =>
    have hR := Lib.hid (runs_of hg HX.out)
    obtain ⟨hn12, hr60⟩ := great_no hg
    have hg := Lib.hid hg
    have hr60 := Lib.hid hr60
    have hn12' : n ≤ 12 := by have := hlen.out; omega
    clear hn12
    go_enter Tryd.func6, Tryd.ntmps6
    go_wp2_with fail
    refine (alive_calls _ HT.out).mono ?_; rintro e w1 ⟨rfl, hb1⟩
    go_wp2_with fail
    refine (great_calls A0 n c0 rows w1 (HX.out.below hb1).rd (fun r hr => ⟨((HX.out.below hb1).ok r hr).1, ((HX.out.below hb1).ok r hr).2.1⟩) hfew).mono ?_; rw [hg.out]; rintro e w2 ⟨rfl, rfl⟩
    have hbx := Lib.hid (HBX.out.below hb1)
    obtain ⟨k0, k1, k2, k3, k4, k5, k6, k7⟩ := hbx.out.get
    simp only [Nat.zero_add] at k1 k2 k3 k4 k5 k6 k7
    have HT2 := Lib.hid (tabs_below HT.out hb1)
    have HX2 := Lib.hid (HX.out.below hb1)
    have HB2 := Lib.hid (hb0.trans (hb1.mono hb0.size))
    clear hb0 hb1
    go_wp2_with fail
    clear k0 k1 k2 k3 k4 k5 k6 k7
    have hb3 := (Below.refl w2.heap.size w2).alloc (Nat.le_refl _) (.cells c.cells 35)
    refine (long_calls (some ⟨w2.heap.size, 0, none⟩) 1 1 [c] 1 _ (rd_block (heap_alloc_new w2 (.cells c.cells 35)) [c] rfl Cell.l_len) (by omega)).mono ?_
    rw [long_one]
    rintro e w3 ⟨rfl, hw3⟩
    rw [← hw3] at hb3
    have hbx3 := Lib.hid (hbx.out.below hb3)
    have HT3 := Lib.hid (tabs_below HT2.out hb3)
    have HX3 := Lib.hid (HX2.out.below hb3)
    have HB3 := Lib.hid (HB2.out.trans (hb3.mono HB2.out.size))
    clear hb3 hw3 hbx HT2 HX2 HB2
    cases hlong : c.long with
    | true =>
      go_wp2
      go_ret
      exact ⟨rfl, HB3.out⟩
    | false =>
      go_wp2_with fail
      have hat0 := RunsAt.lit w3
      have hb0' := (Below.refl w3.heap.size w3).alloc (Nat.le_refl _) (.cells #[] 23)
      generalize w3.alloc (.cells #[] 23) = W0 at *
      go_loopg [5, 6] n (fun gk rs i wr => ∃ (k cap : Nat) (A : Option Addr) (out : List Row), i = .int .i64 k ∧ k ≤ n ∧ gk = n - k ∧ rs = .slice A k cap ∧ RunsAt w3.heap.size A k cap out wr ∧ Hid (out.map Row.xs = (rows.take k).map (fun r => sortC r.xs)) ∧ Below w3.heap.size w3 wr)
      case atStart => exact ⟨0, 0, _, [], rfl, Nat.zero_le _, rfl, rfl, hat0, rfl, hb0'⟩
      case round =>
        clear hat0 hb0'
        obtain ⟨k, cap, A, out, rfl, hk, rfl, rfl, hat, hout, hb⟩ := hrel
        by_cases hlt : k < n
        · obtain ⟨r, b, off, hr, rfl, _, hrc⟩ := HX3.out.rd.get k hlt
          have c0 := below_cell hb (Nat.le_refl _) (hrc 0 _ rfl)
          simp only [Nat.mul_one, Nat.add_zero] at c0
          have hro := Lib.hid ((HX3.out.below hb).ok r (List.mem_of_getElem? hr))
          have hrl := Lib.hid (hr60.out r (List.mem_of_getElem? hr))
          have hsort := Lib.hid (rsort_calls r.A r.n r.cap r.xs wr hro.out.1 (by rw [hro.out.1.len]; have := hrl.out; omega) hro.out.2.2.2.2)
          have HR := Lib.hid hr
          clear hrc hr
          go_wp2_with (first
            | (go_at_call 25; refine hsort.out.mono ?_; clear hsort; rintro e w3 ⟨A', m', cap', rfl, hown, hb2⟩; have hown := Lib.hid hown; have hat2 := Lib.hid (hat.below hb2); have hsz2 := Nat.le_trans hb.size hb2.size)
            | (at_builtin; refine app_row rfl (.tmp 32) (.tmp 38) rfl ⟨A', m', cap', sortC r.xs⟩ rfl hat2.out.1 rfl rfl (by omega) hsz2 ?_; intro g cap3 w5 h1 h2 h3 h4))
          go_roundg (n - (k + 1))
          case measure => omega
          case rel =>
            refine ⟨k + 1, cap3, some ⟨g, 0, none⟩, out ++ [⟨A', m', cap', sortC r.xs⟩], by go_num, by omega, rfl, rfl, hat2.out.snoc hown.out (fun g hg => ((hat.lt g hg).2)) hb.size ?_ ?_ h1 h2 (h3.imp id Nat.le_of_lt), ?_, ?_⟩
            · have := sortC_len _ r.xs rfl; have := hrl.out; omega
            · exact fun c hc => hro.out.2.2.2.2 c (sortC_mem _ r.xs rfl c hc)
            · unfold Hid; rw [List.map_append, hout.out, List.take_add_one, HR.out]; simp
            · exact (hb.trans (hb2.mono hb.size)).trans (h2.below hsz2 (fun i hi => by have := (hat2.out.lt i hi).1; omega))
        · obtain rfl : k = n := by omega
          have hbeg : Hid (begL out = rows.map fun r => sortC r.xs) := by
            refine begL_sort ?_
            have := hout.out
            rwa [List.take_of_length_le (by have := hlen.out; omega)] at this
          have hxs : Hid (out.map Row.xs = rows.map fun r => sortC r.xs) := by
            have := hout.out
            rwa [List.take_of_length_le (by have := hlen.out; omega)] at this
          have hsz := hb.size
          have HM := Lib.hid hat.rows
          have HB4 := Lib.hid (HB3.out.trans (hb.mono HB3.out.size))
          have HT4 := Lib.hid (tabs_below HT3.out hb)
          have hbx4 := Lib.hid (hbx3.out.below hb)
          obtain ⟨L, hL⟩ : ∃ L, L = rows.map fun r => sortC r.xs := ⟨_, rfl⟩
          rw [← hL] at hbeg hR
          clear hL hat hb hout hxs hlt hsz
          go_wp2_with fail
          refine (merge_calls _ _ _ _ _ HM.out (by omega) (by rw [hbeg.out]; exact Nat.le_trans hR.out.few (by omega)) HT4.out).mono ?_
          rintro e w6 ⟨o, hm, A6, n6, c6, rfl, hown6, hb6⟩
          rw [hbeg.out] at hm
          have HMG := Lib.hid hm
          have hn6 : n6 = o.length := hown6.1
          have hn720 : n6 ≤ 720 := by rw [hn6]; exact (hR.out.merged hm).2.2.2.1
          have HO6 := Lib.hid (hown6.rd Cell.l_len)
          have HM6 := Lib.hid (HM.out.below hb6)
          have HB6 := Lib.hid (HB4.out.trans (hb6.mono HB4.out.size))
          have HT6 := Lib.hid (tabs_below HT4.out hb6)
          have hbx6 := Lib.hid (hbx4.out.below hb6)
          have HN6 := Lib.hid hn6
          have hO6b : Hid (∀ a, A6 = some a → a.block < w6.heap.size) := fun a ha => by
            rcases hown6.shape with ⟨e, _⟩ | ⟨g, e, _, e3⟩
            · rw [e] at ha; cases ha
            · rw [e] at ha; injection ha with ha; subst ha; exact e3
          clear hm hown6 hb6 HM HB4 HT4 hbx4 hn6
          go_wp2_with fail
          refine (new_calls _ _ _ _ _ HM6.out (by omega) HT6.out).mono ?_
          rintro e w7 ⟨bm, Am, rfl, hM, hb7, hbm1, hbm2, hA⟩
          rw [hbeg.out] at hM
          have HMA := Lib.hid hM
          have HA := Lib.hid hA
          have HO7 := Lib.hid (HO6.out.below hb7)
          have HB7 := Lib.hid (HB6.out.trans (hb7.mono HB6.out.size))
          have hbx7 := Lib.hid (hbx6.out.below hb7)
          have hmine : Hid (∀ i, Mine bm Am i → w6.heap.size ≤ i) := fun i hi => by
            rcases hi with rfl | hi
            · exact hbm2
            · exact (HA.out i hi).1
          have hsz6 := Lib.hid HB6.out.size
          have hboxlt : Hid (w.heap.size < w6.heap.size) := lt_of_cell (hbx6.out 0 _ rfl)
          obtain ⟨k0, k1, k2, k3, k4, k5, k6, k7⟩ := hbx7.out.get
          simp only [Nat.zero_add] at k1 k2 k3 k4 k5 k6 k7
          clear hM hA hb7 HO6 HM6 HB6 hbx6
          go_wp2_with fail
          refine (skip_calls _ _ _ _ _ _ _ HMA.out hR.out.rises).mono ?_
          rintro e w8 ⟨rfl, hM, ho⟩
          have hsz8 := ho.size
          have HO8 := HO7.out.only ho (fun a ha e => by have := hmine.out _ e; have := hO6b.out a ha; omega)
          have HB8 := HB7.out.trans (ho.below HB7.out.size (fun i hi => by have := hmine.out i hi; have := hsz6.out; omega))
          have hbx8 := hbx7.out.only ho (fun e => by have := hmine.out _ e; have := hboxlt.out; omega)
          have hrest : Hid (Merged (skipD c L) (restC c o 0)) := by
            obtain ⟨o2, ho2⟩ := merged_ex _ (skipD c L) (Nat.le_refl _)
            have := merged_skips hR.out.rises ho2 HMG.out
            unfold Hid restC
            rw [List.drop_zero, ← this]; exact ho2
          have hrise : Hid (∀ l ∈ skipD c L, Rises l) := rises_map hR.out.rises _
          have hofit : Hid (∀ d ∈ o, d.fits) := (hR.out.merged HMG.out).2.2.1
          clear k0 k1 k2 k3 k4 k5 k6 k7 ho HO7 HB7 hbx7 HMA
          go_wp2_with fail
          go_loopg [9] n6 (fun gk i wr => ∃ (k : Nat) (L1 : List (List Cell)), i = .int .i64 k ∧ k ≤ n6 ∧ gk = n6 - k ∧ MAt w6.heap.size w7.heap.size bm Am L1 wr ∧ Hid (∀ l ∈ L1, Rises l) ∧ Hid (Merged L1 (restC c o k)) ∧ RdC wr A6 n6 o ∧ At8 wr w.heap.size 0 c ∧ w7.heap.size ≤ wr.heap.size ∧ Below w.heap.size w wr)
          case atStart => exact ⟨0, _, rfl, Nat.zero_le _, rfl, hM, hrise.out, hrest.out, HO8, hbx8, hsz8, HB8⟩
          case round =>
            clear hM HO8 hbx8 hsz8 HB8 hrise hrest
            obtain ⟨k, L1, rfl, hk, rfl, hM, hrs, hmg, hrd, hbx, hsz, hB⟩ := hrel
            by_cases hlt : k < n6
            · obtain ⟨d, b, off, hd, hA6, _, hd8⟩ := rd8 hrd k hlt
              subst hA6
              have HD := Lib.hid hd
              have hdf := Lib.hid (hofit.out d (List.mem_of_getElem? hd))
              obtain ⟨k0, k1, k2, k3, k4, k5, k6, k7⟩ := hd8.later
              obtain ⟨l0, l1, l2, l3, l4, l5, l6, l7⟩ := hbx.later
              simp only [Nat.zero_add] at l1 l2 l3 l4 l5 l6 l7
              obtain ⟨x, hx⟩ : ∃ x, x = d.order c := ⟨_, rfl⟩
              have Hord : Hid (∀ X, Calls Tryd.prog 27 #[d.v, c.v] (wr.later X) fun e w'' => e = .returned (.int .i64 x) ∧ ∃ Y, w'' = wr.later Y) := fun X => by rw [hx]; exact calls_later (rorder_calls d c _ hdf.out.small' HC.out.small')
              have hX := Lib.hid hx
              have hk0 : (0 : Int) ≤ (k : Int) := by omega
              have hk1 : (k : Int) < (n6 : Int) := by omega
              clear hd hd8 hx
              go_wp2
              refine wp_region_later (by kernel_rfl) (by kernel_rfl) ?_
              repeat (go_big_quiet_step ((go_at_call 27; exact Hord.out _)))
              refine wpQuiet_nil ?_
              intro W1 hW1
              have hB1 : Below wr.heap.size wr W1 := by
                obtain ⟨X, rfl⟩ := hW1
                exact later_below wr X
              clear hW1 k0 k1 k2 k3 k4 k5 k6 k7 l0 l1 l2 l3 l4 l5 l6 l7 Hord
              have hM1 := hM.later hB1
              have hrd1 := hrd.below hB1
              have hbx1 := hbx.below hB1
              have hBB := hB.trans (hB1.mono hB.size)
              have hsz1 := Nat.le_trans hsz hB1.size
              clear hM hrd hbx hB hsz hB1
              by_cases hneg : x < 0
              · have hm2 : Hid (Merged L1 (restC c o (k + 1))) := by
                  unfold Hid; rw [restC_skip HD.out (by rw [← hX.out]; exact hneg)]; exact hmg.out
                go_wp2
                go_roundg (n6 - (k + 1))
                case measure => omega
                case rel => exact ⟨k + 1, L1, by go_num, by omega, rfl, hM1, hrs.out, hm2.out, hrd1, hbx1, hsz1, hBB⟩
              · obtain ⟨t, hbest, hm2⟩ : ∃ t, IsBest L1 t d ∧ Merged (nextD d L1) (restC c o (k + 1)) := by
                  have := hmg.out
                  rw [restC_next HD.out (by rw [← hX.out]; exact hneg)] at this
                  exact merged_cons this
                have hnext := Lib.hid (next_some _ _ _ _ _ _ hM1 hrs.out hsz1 t d hbest)
                have hm2 := Lib.hid hm2
                clear hM1 hbest
                go_wp2_with (go_at_call 14; refine hnext.out.mono ?_; clear hnext; rintro e w2 ⟨rfl, hM2, ho2⟩)
                obtain ⟨q2, hq2⟩ := one_box w2 d.cells 35
                have hM4 := Lib.hid (hM2.later q2)
                have hrd2 := hrd1.only ho2 (fun a ha e => by have := hmine.out _ e; have := hO6b.out a ha; omega)
                have hrd3 := Lib.hid (hrd2.below q2)
                have hbx2 := Lib.hid ((hbx1.only ho2 (fun e => by have := hmine.out _ e; have := hboxlt.out; omega)).below q2)
                have hB4 := hBB.trans (ho2.below hBB.size (fun i hi => by have := hmine.out i hi; have := hsz6.out; omega))
                have hB5 := Lib.hid (hB4.trans (q2.mono hB4.size))
                have hsz5 := Nat.le_trans hsz1 (Nat.le_trans ho2.size q2.size)
                have hbd : At8 (w2.alloc (.cells d.cells 35)) w2.heap.size 0 d := fun i u hu => by rw [Nat.zero_add]; exact hq2 i u (by simpa [Cell.l] using hu)
                obtain ⟨d', b', o', e1, e2, _, hd8⟩ := rd8 hrd3.out k hlt
                injection e2 with e2
                injection e2 with e2 e3 _
                subst e2; subst e3
                obtain rfl : d = d' := Option.some.inj (HD.out.symm.trans e1)
                obtain ⟨k0, k1, k2, k3, k4, k5, k6, k7⟩ := hd8.get
                obtain ⟨l0, l1, l2, l3, l4, l5, l6, l7⟩ := hbd.get
                simp only [Nat.zero_add] at l1 l2 l3 l4 l5 l6 l7
                clear hM2 hrd2 hrd1 hbx1 hB4 hBB hq2 hd8 hbd e1 ho2 q2 hsz1
                go_wp2
                go_quiet (fail)
                clear k0 k1 k2 k3 k4 k5 k6 k7 l0 l1 l2 l3 l4 l5 l6 l7
                have hbq := below_drewN (w2.alloc (.cells d.cells 35)) nq
                generalize w2.alloc (.cells d.cells 35) = w4 at *
                go_wp2
                go_roundg (n6 - (k + 1))
                case measure => omega
                case rel => exact ⟨k + 1, _, by go_num, by omega, rfl, hM4.out.later hbq, rises_map hrs.out _, hm2.out, hrd3.out.below hbq, hbx2.out.below hbq, Nat.le_trans hsz5 hbq.size, hB5.out.trans (hbq.mono hB5.out.size)⟩
            · obtain rfl : k = n6 := by omega
              have hall : Hid (∀ l ∈ L1, l = []) := by
                have := hmg.out
                unfold restC at this
                rw [List.drop_eq_nil_of_le (by have := HN6.out; omega)] at this
                exact merged_nil this
              have hnext := Lib.hid (next_none _ _ _ _ _ _ hM hrs.out hsz hall.out)
              clear hM
              go_wp2_with (go_at_call 14; refine hnext.out.mono ?_; clear hnext; rintro e w2 ⟨rfl, hM2, ho2⟩)
              have q2 := (Below.refl w2.heap.size w2).alloc (Nat.le_refl _) (.cells Cell.zero.cells 35)
              have hB4 := hB.trans (ho2.below hB.size (fun i hi => by have := hmine.out i hi; have := hsz6.out; omega))
              have hB5 := hB4.trans (q2.mono hB4.size)
              refine (left_calls _ _ _ _ _ _ (hM2.later q2)).mono ?_
              rw [left_zero hall.out]
              rintro e w4 ⟨rfl, hb4⟩
              go_wp2
              go_ret
              exact ⟨rfl, hB5.trans (hb4.mono hB5.size)⟩
end Go.Proofs.YtmabmnkdigdaiaaDoor
