/-
  MergeCalls, walked: whatever the runs, the cells and the row, it answers true and turns nothing that was there.
-/
import Derived.Test.YtmabmnkdigdaiaaDoorJAliveW
import Derived.Outline
namespace Go.Proofs.YtmabmnkdigdaiaaDoor
open Go.RowKit

theorem begL_map {rows out : List Row} (h : out.map Row.xs = rows.map Row.xs) : begL out = begL rows := by
  have e : ∀ l : List Row, begL l = (l.map Row.xs).map begC := fun l => by simp [begL]
  rw [e, e, h]
theorem begL_rises (rows : List Row) : ∀ l ∈ begL rows, Rises l := fun l hl => by
  obtain ⟨q, _, rfl⟩ := List.mem_map.1 hl
  exact begC_rises _
theorem begL_few {rows : List Row} (hg : greatC rows = false) : leftC (begL rows) ≤ 720 := by
  obtain ⟨h12, h60⟩ := great_no hg
  refine left_le (n := 12) (m := 60) (by simpa [begL] using h12) fun l hl => ?_
  obtain ⟨r, hr, rfl⟩ := List.mem_map.1 hl
  have := h60 r hr
  unfold begC
  rw [List.length_take]; omega
theorem ArgRows.rows0 {w : World} {A : Option Addr} {n : Nat} {rows : List Row} (h : ArgRows w A n rows) (hg : greatC rows = false) : RdRows0 w A n rows :=
  ⟨h.rd, fun r hr => by
    obtain ⟨_, h60⟩ := great_no hg
    obtain ⟨q1, q2, q3, q4, q5⟩ := h.ok r hr
    exact ⟨q1, q4, q3, by rw [q1.len]; have := h60 r hr; omega, q5⟩⟩
/-- Both mergers' next answers are one. -/
theorem both_next (L : List (List Cell)) (hs : ∀ l ∈ L, Rises l) : ∃ (v : Cell) (x : Int) (ok : Bool) (L2 : List (List Cell)), (∀ l ∈ L2, Rises l) ∧
    (∀ base lim bm A W, MAt base lim bm A L W → lim ≤ W.heap.size → Calls Tryd.prog 14 #[.pointer (some ⟨bm, 0, none⟩)] W fun e w' => e = .returned (.tuple #[v.v, .int .i64 x, .bool ok]) ∧ MAt base lim bm A L2 w' ∧ Only (Mine bm A) W w') ∧
    (∀ base lim bm A W, RAt base lim bm A L W → lim ≤ W.heap.size → Calls Tryd.prog 15 #[.pointer (some ⟨bm, 0, none⟩)] W fun e w' => e = .returned (.tuple #[v.v, .int .i64 x, .bool ok]) ∧ RAt base lim bm A L2 w' ∧ Only (Mine bm A) W w') := by
  rcases best_or L with hall | ⟨t, c, hb⟩
  · exact ⟨Cell.zero, 0, false, L, hs, fun base lim bm A W h hl => next_none base lim bm A L W h hs hl hall, fun base lim bm A W h hl => rnext_none base lim bm A L W h hl hall⟩
  · exact ⟨c, t, true, nextD c L, rises_map hs _, fun base lim bm A W h hl => next_some base lim bm A L W h hs hl t c hb, fun base lim bm A W h hl => rnext_some base lim bm A L W h hs hl t c hb⟩

attribute [local go_sem high] eqCell
set_option maxRecDepth 100000 in
set_option maxHeartbeats 4000000 in
theorem mcalls_calls (A0 : Option Addr) (n c0 : Nat) (rows : List Row) (As : Option Addr) (ns cs : Nat) (xs : List Cell) (row : ByteArray) (w : World) (hx : ArgRows w A0 n rows) (hxs : RdC w As ns xs ∧ (∀ c ∈ xs, c.fits) ∧ (As = none → cs = 0) ∧ ns ≤ cs ∧ cs ≤ 1466015503700) (hrow : row.size ≤ 140737488351232) (hT : Lib.Utf8Tabs 1 2 w) :
    Calls Tryd.prog 3 #[.slice A0 n c0, .slice As ns cs, .string row] w fun e w' => e = .returned (.bool true) ∧ Below w.heap.size w w' := by
  obtain ⟨hxs, hsf, _, hnc, hcc⟩ := hxs
  have HT := Lib.hid hT
  have HX := Lib.hid hx
  have HXS := Lib.hid hxs
  have HSF := Lib.hid hsf
  have hfew := hx.few
  have hlen := Lib.hid hx.rd.len
  have hlens := Lib.hid hxs.len
  clear hT hx hxs hsf
  cases hg : greatC rows with
  | true =>
    have hg := Lib.hid hg
    go_enter Tryd.func3, Tryd.ntmps3
    go_wp2_with fail
    refine (alive_calls _ HT.out).mono ?_; rintro e w1 ⟨rfl, hb1⟩
    go_wp2_with fail
    refine (great_calls A0 n c0 rows w1 (HX.out.below hb1).rd (fun r hr => ⟨((HX.out.below hb1).ok r hr).1, ((HX.out.below hb1).ok r hr).2.1⟩) hfew).mono ?_; rw [hg.out]; rintro e w2 ⟨rfl, rfl⟩
    go_wp2
    go_ret
    exact ⟨rfl, hb1⟩
  | false =>
  have HG := Lib.hid hg
  obtain ⟨hn12, hr60⟩ := great_no hg
  have hr60 := Lib.hid hr60
  have hn12' : n ≤ 12 := by have := hlen.out; omega
  clear hn12 hg
  cases hl : longC xs 60 with
  | true =>
    have hl := Lib.hid hl
    go_enter Tryd.func3, Tryd.ntmps3
    go_wp2_with fail
    refine (alive_calls _ HT.out).mono ?_; rintro e w1 ⟨rfl, hb1⟩
    go_wp2_with fail
    refine (great_calls A0 n c0 rows w1 (HX.out.below hb1).rd (fun r hr => ⟨((HX.out.below hb1).ok r hr).1, ((HX.out.below hb1).ok r hr).2.1⟩) hfew).mono ?_; rw [HG.out]; rintro e w2 ⟨rfl, rfl⟩
    go_wp2_with fail
    refine (long_calls As ns cs xs 60 _ (HXS.out.below hb1) (by omega)).mono ?_; rw [hl.out]; rintro e w3 ⟨rfl, rfl⟩
    go_wp2
    go_ret
    exact ⟨rfl, hb1⟩
  | false =>
  have hs60 : ns ≤ 60 := by
    have := hlens.out
    unfold longC at hl
    rw [Bool.or_eq_false_iff] at hl
    have := of_decide_eq_false hl.1
    omega
  have hl := Lib.hid hl
  by_cases h1 : (100 : Int) < (row.size : Int)
  · go_enter Tryd.func3, Tryd.ntmps3
    go_wp2_with fail
    refine (alive_calls _ HT.out).mono ?_; rintro e w1 ⟨rfl, hb1⟩
    go_wp2_with fail
    refine (great_calls A0 n c0 rows w1 (HX.out.below hb1).rd (fun r hr => ⟨((HX.out.below hb1).ok r hr).1, ((HX.out.below hb1).ok r hr).2.1⟩) hfew).mono ?_; rw [HG.out]; rintro e w2 ⟨rfl, rfl⟩
    go_wp2_with fail
    refine (long_calls As ns cs xs 60 _ (HXS.out.below hb1) (by omega)).mono ?_; rw [hl.out]; rintro e w3 ⟨rfl, rfl⟩
    go_wp2
    go_ret
    exact ⟨rfl, hb1⟩
  have hd1 : decide ((100 : Int) < (row.size : Int)) = false := decide_eq_false h1
  have hd2 : decide (100 < row.size) = false := decide_eq_false (by omega)
  go_enter Tryd.func3, Tryd.ntmps3
  go_wp2_with fail
  refine (alive_calls _ HT.out).mono ?_; rintro e w1 ⟨rfl, hb1⟩
  go_wp2_with fail
  refine (great_calls A0 n c0 rows w1 (HX.out.below hb1).rd (fun r hr => ⟨((HX.out.below hb1).ok r hr).1, ((HX.out.below hb1).ok r hr).2.1⟩) hfew).mono ?_; rw [HG.out]; rintro e w2 ⟨rfl, rfl⟩
  go_wp2_with fail
  refine (long_calls As ns cs xs 60 _ (HXS.out.below hb1) (by omega)).mono ?_; rw [hl.out]; rintro e w3 ⟨rfl, rfl⟩
  have HT3 := Lib.hid (tabs_below HT.out hb1)
  have HX3 := Lib.hid (HX.out.below hb1)
  have HXS3 := Lib.hid (HXS.out.below hb1)
  have HB3 := Lib.hid hb1
  clear hb1
  go_wp2_with fail
  have hat0 := RunsAt.lit w3
  have hb0' := (Below.refl w3.heap.size w3).alloc (Nat.le_refl _) (.cells #[] 23)
  generalize w3.alloc (.cells #[] 23) = W0 at *
  go_loopg [7, 8] n (fun gk rs i wr => ∃ (k cap : Nat) (A : Option Addr) (out : List Row), i = .int .i64 k ∧ k ≤ n ∧ gk = n - k ∧ rs = .slice A k cap ∧ RunsAt w3.heap.size A k cap out wr ∧ Hid (out.map Row.xs = (rows.take k).map Row.xs) ∧ Below w3.heap.size w3 wr)
  case atStart => exact ⟨0, 0, _, [], rfl, Nat.zero_le _, rfl, rfl, hat0, rfl, hb0'⟩
  case round =>
    clear hat0 hb0'
    obtain ⟨k, cap, A, out, rfl, hk, rfl, rfl, hat, hout, hb⟩ := hrel
    by_cases hlt : k < n
    · obtain ⟨r, b, off, hr, rfl, _, hrc⟩ := HX3.out.rd.get k hlt
      have c0 := below_cell hb (Nat.le_refl _) (hrc 0 _ rfl)
      simp only [Nat.mul_one, Nat.add_zero] at c0
      have hro := Lib.hid ((HX3.out.below hb).ok r (List.mem_of_getElem? hr))
      have hrl := Lib.hid (hr60.out r (List.mem_of_getElem? hr))
      have hcopy := Lib.hid (copy_calls r.A r.n r.cap r.xs wr hro.out.1 hro.out.2.2.2.1 (by rw [hro.out.1.len]; have := hrl.out; omega))
      have HR := Lib.hid hr
      clear hrc hr
      go_wp2_with (first
        | (go_at_call 11; refine hcopy.out.mono ?_; clear hcopy; rintro e w4 ⟨A', m', cap', rfl, hown, hb2⟩; have hown := Lib.hid hown; have hat2 := Lib.hid (hat.below hb2); have hsz2 := Nat.le_trans hb.size hb2.size)
        | (at_builtin; refine app_row rfl (.tmp 44) (.tmp 50) rfl ⟨A', m', cap', r.xs⟩ rfl hat2.out.1 rfl rfl (by omega) hsz2 ?_; intro g cap3 w5 h1 h2 h3 h4))
      go_roundg (n - (k + 1))
      case measure => omega
      case rel =>
        refine ⟨k + 1, cap3, some ⟨g, 0, none⟩, out ++ [⟨A', m', cap', r.xs⟩], by go_num, by omega, rfl, rfl, hat2.out.snoc hown.out (fun g hg => ((hat.lt g hg).2)) hb.size ?_ ?_ h1 h2 (h3.imp id Nat.le_of_lt), ?_, ?_⟩
        · have := hrl.out; omega
        · exact hro.out.2.2.2.2
        · unfold Hid; rw [List.map_append, hout.out, List.take_add_one, HR.out]; simp
        · exact (hb.trans (hb2.mono hb.size)).trans (h2.below hsz2 (fun i hi => by have := (hat2.out.lt i hi).1; omega))
    · obtain rfl : k = n := by omega
      have hxsq : Hid (out.map Row.xs = rows.map Row.xs) := by
        have := hout.out
        rwa [List.take_of_length_le (by have := hlen.out; omega)] at this
      have hbeg : Hid (begL out = begL rows) := begL_map hxsq.out
      have HOWN := Lib.hid hat
      have HT4 := Lib.hid (tabs_below HT3.out hb)
      have HX4 := Lib.hid (HX3.out.below hb)
      have HXS4 := Lib.hid (HXS3.out.below hb)
      have HB4 := Lib.hid (HB3.out.trans (hb.mono HB3.out.size))
      obtain ⟨L, hL⟩ : ∃ L, L = begL rows := ⟨_, rfl⟩
      have hLr : Hid (∀ l ∈ L, Rises l) := by rw [hL]; exact begL_rises rows
      have hLf : Hid (leftC L ≤ 720) := by rw [hL]; exact begL_few HG.out
      rw [← hL] at hbeg
      have HL := Lib.hid hL
      clear hat hout hb hL HT3 HX3 HXS3 HB3 hlt
      obtain ⟨w5, rfl⟩ : ∃ w5 : World, w5 = wr := ⟨_, rfl⟩
      go_wp2_with fail
      refine (new_calls _ _ _ _ _ HOWN.out.rows (by omega) HT4.out).mono ?_
      rintro e w7 ⟨bm, Am, rfl, hM, hb7, hbm1, hbm2, hA⟩
      rw [hbeg.out] at hM
      have HM := Lib.hid hM
      have HA := Lib.hid hA
      have HOWN7 := Lib.hid (HOWN.out.below hb7)
      have HT7 := Lib.hid (tabs_below HT4.out hb7)
      have HX7 := Lib.hid (HX4.out.below hb7)
      have HXS7 := Lib.hid (HXS4.out.below hb7)
      have HB7 := Lib.hid (HB4.out.trans (hb7.mono HB4.out.size))
      have HBW := Lib.hid hb7
      have hsz7 := hb7.size
      clear hM hA hb7
      go_wp2_with fail
      refine (rnew_calls _ _ _ _ _ (HX7.out.rows0 HG.out) (by omega)).mono ?_
      rintro e w8 ⟨br, Ar, rfl, hRr, hb8, hbr1, hbr2, hAr⟩
      rw [← HL.out] at hRr
      have HAR := Lib.hid hAr
      have hM8 := HM.out.later hb8
      have HBW8 := HBW.out.trans (hb8.mono HBW.out.size)
      have HX8 := Lib.hid (HX7.out.below hb8)
      have hsz8 := hb8.size
      have hmm : Hid (∀ i, Mine bm Am i → w5.heap.size ≤ i ∧ i < w7.heap.size) := fun i hi => by
        rcases hi with rfl | hi
        · exact ⟨hbm2, hbm1⟩
        · exact HA.out i hi
      have hmr : Hid (∀ i, Mine br Ar i → w7.heap.size ≤ i ∧ i < w8.heap.size) := fun i hi => by
        rcases hi with rfl | hi
        · exact ⟨hbr2, hbr1⟩
        · exact HAR.out i hi
      clear hb8 hAr HOWN7 HT7 HX7 HXS7 HB7 HBW HM HX8
      go_wp2_with fail
      go_loopg [11] ns (fun gk i wq => ∃ (j : Nat) (L1 : List (List Cell)), i = .int .i64 j ∧ j ≤ ns ∧ gk = ns - j ∧ MAt w5.heap.size w7.heap.size bm Am L1 wq ∧ RAt w7.heap.size w8.heap.size br Ar L1 wq ∧ Hid (∀ l ∈ L1, Rises l) ∧ w8.heap.size ≤ wq.heap.size ∧ Below w5.heap.size w5 wq)
      case atStart => exact ⟨0, L, rfl, Nat.zero_le _, rfl, hM8, hRr, hLr.out, Nat.le_refl _, HBW8⟩
      case round =>
        clear hM8 hRr HBW8
        obtain ⟨j, L1, rfl, hj, rfl, hM, hR, hrs, hsz, hB⟩ := hrel
        obtain ⟨wq, rfl⟩ : ∃ wq : World, wq = wr := ⟨_, rfl⟩
        by_cases hlt : j < ns
        · obtain ⟨d, b, off, hd, hAs, _, hd8⟩ := rd8 (HXS4.out.below hB) j hlt
          subst hAs
          have hdf := Lib.hid (HSF.out d (List.mem_of_getElem? hd))
          have HDd := Lib.hid hd
          have hj0 : (0 : Int) ≤ (j : Int) := by omega
          have hj1 : (j : Int) < (ns : Int) := by omega
          obtain ⟨v, x, ok, L2, hrs2, hn1, hn2⟩ := both_next L1 hrs.out
          have HN1 := Lib.hid (hn1 _ _ _ _ _ hM (by omega))
          have HN2 := Lib.hid hn2
          have hrs2 := Lib.hid hrs2
          clear hd hd8 hn1 hn2 hM
          go_wp2_with fail
          refine HN1.out.mono ?_; clear HN1; rintro e w13 ⟨rfl, hM2, ho⟩
          have hR2 := hR.only ho (fun e => by have := (hmm.out _ e).2; omega) (fun g hg e => by have := (hmm.out _ e).2; have := (HAR.out g hg).1; omega) (fun i h1 _ e => by have := (hmm.out i e).2; omega)
          have hB2 := hB.trans (ho.below hB.size (fun i hi => (hmm.out i hi).1))
          have hsz2 := Nat.le_trans hsz ho.size
          obtain ⟨q3, hq3⟩ := one_box w13 v.cells 35
          have hM3 := hM2.later q3
          have hR3 := hR2.later q3
          have hB3 := hB2.trans (q3.mono hB2.size)
          have hsz3 := Nat.le_trans hsz2 q3.size
          have hbx3 : At8 (w13.alloc (.cells v.cells 35)) w13.heap.size 0 v := fun i u hu => by rw [Nat.zero_add]; exact hq3 i u (by simpa [Cell.l] using hu)
          have HN2' := Lib.hid (HN2.out _ _ _ _ _ hR3 hsz3)
          have HM3 := Lib.hid hM3
          have HB3 := Lib.hid hB3
          have HBX3 := Lib.hid hbx3
          clear hM2 hR2 hB2 hM3 hR3 hB3 hbx3 hq3 q3 HN2 hR ho hB
          go_wp2_with fail
          refine HN2'.out.mono ?_; clear HN2'; rintro e w14 ⟨rfl, hR4, ho4⟩
          have hM4 := HM3.out.only ho4 (fun e => by have := (hmr.out _ e).1; omega) (fun g hg e => by have := (hmr.out _ e).1; have := (HA.out g hg).2; omega) (fun i h1 e => by have := (hmr.out i e).1; omega)
          have hB4 := HB3.out.trans (ho4.below HB3.out.size (fun i hi => by have := (hmr.out i hi).1; omega))
          have hbx4 := HBX3.out.only ho4 (fun e => by have := (hmr.out _ e).2; omega)
          have hsz4 := Nat.le_trans hsz3 ho4.size
          obtain ⟨q5, hq5⟩ := one_box w14 v.cells 35
          have hM5 := Lib.hid (hM4.later q5)
          have hR5 := Lib.hid (hR4.later q5)
          have hB5 := Lib.hid (hB4.trans (q5.mono hB4.size))
          have hsz5 := Nat.le_trans hsz4 q5.size
          have hbx5 := hbx4.below q5
          have hby5 : At8 (w14.alloc (.cells v.cells 35)) w14.heap.size 0 v := fun i u hu => by rw [Nat.zero_add]; exact hq5 i u (by simpa [Cell.l] using hu)
          obtain ⟨k0, k1, k2, k3, k4, k5, k6, k7⟩ := hbx5.get
          obtain ⟨l0, l1, l2, l3, l4, l5, l6, l7⟩ := hby5.get
          simp only [Nat.zero_add] at k1 k2 k3 k4 k5 k6 k7 l1 l2 l3 l4 l5 l6 l7
          clear hM4 hR4 hB4 hbx4 hq5 q5 hbx5 hby5 HM3 HB3 HBX3 ho4
          go_wp2_with fail
          clear k0 k1 k2 k3 k4 k5 k6 k7 l0 l1 l2 l3 l4 l5 l6 l7
          refine (left_calls _ _ _ _ _ _ hM5.out).mono ?_; rintro e w6 ⟨rfl, hb6⟩
          have hM6' := Lib.hid (hM5.out.later hb6)
          have hR6' := Lib.hid (hR5.out.later hb6)
          have hB6' := Lib.hid (hB5.out.trans (hb6.mono hB5.out.size))
          have hsz6' := Nat.le_trans hsz5 hb6.size
          clear hb6 hM5 hR5 hB5
          go_wp2_with fail
          refine (rleft_calls _ _ _ _ _ _ hR6'.out).mono ?_; rintro e W6 ⟨rfl, hw6⟩
          have hM6 : MAt w5.heap.size w7.heap.size bm Am L2 W6 := by rw [hw6]; exact hM6'.out
          have hR6 : RAt w7.heap.size w8.heap.size br Ar L2 W6 := by rw [hw6]; exact hR6'.out
          have hB6 : Below w5.heap.size w5 W6 := by rw [hw6]; exact hB6'.out
          have hsz6 : w8.heap.size ≤ W6.heap.size := by rw [hw6]; exact hsz6'
          clear hw6 hM6' hR6' hB6' hsz6'
          have key : ∀ W, Below w5.heap.size w5 W → At8 W b (off + j * 8) d := fun W hW => by
            obtain ⟨d', b', o', e1, e2, _, h8⟩ := rd8 (HXS4.out.below hW) j hlt
            injection e2 with e2
            injection e2 with e2 e3 _
            subst e2; subst e3
            obtain rfl : d = d' := Option.some.inj (HDd.out.symm.trans e1)
            exact h8
          have KEY := Lib.hid key
          obtain ⟨k0, k1, k2, k3, k4, k5, k6, k7⟩ := (key _ hB6).get
          have HR6 := Lib.hid hR6
          have HB6 := Lib.hid hB6
          have HM6 := Lib.hid hM6
          clear hM6 hR6 hB6 key
          go_wp2_with fail
          clear k0 k1 k2 k3 k4 k5 k6 k7
          refine (skip_calls _ _ _ _ L2 d W6 HM6.out hrs2.out).mono ?_; rintro e w15 ⟨rfl, hM7, ho7⟩
          have hR7 := HR6.out.only ho7 (fun e => by have := (hmm.out _ e).2; omega) (fun g hg e => by have := (hmm.out _ e).2; have := (HAR.out g hg).1; omega) (fun i h1 _ e => by have := (hmm.out i e).2; omega)
          have hB7 := HB6.out.trans (ho7.below HB6.out.size (fun i hi => (hmm.out i hi).1))
          have hsz7 := Nat.le_trans hsz6 ho7.size
          obtain ⟨k0, k1, k2, k3, k4, k5, k6, k7⟩ := (KEY.out _ hB7).get
          have HR7 := Lib.hid hR7
          have HB7 := Lib.hid hB7
          have HM7 := Lib.hid hM7
          clear hM7 hR7 hB7 ho7 HR6 HM6 HB6
          go_wp2_with fail
          clear k0 k1 k2 k3 k4 k5 k6 k7
          refine (rskip_calls _ _ _ _ L2 d w15 HR7.out hdf.out.small').mono ?_; rintro e w16 ⟨rfl, hR8, ho8⟩
          have hM8 := HM7.out.only ho8 (fun e => by have := (HAR.out _ e).1; omega) (fun g hg e => by have := (HAR.out _ e).1; have := (HA.out g hg).2; omega) (fun i h1 e => by have := (HAR.out i e).1; omega)
          have hB8 := HB7.out.trans (ho8.below HB7.out.size (fun i hi => by have := (HAR.out i hi).1; omega))
          have hsz8' := Nat.le_trans hsz7 ho8.size
          have HR8 := Lib.hid hR8
          have HB8 := Lib.hid hB8
          have HM8 := Lib.hid hM8
          clear hR8 hM8 hB8 ho8 HR7 HB7 HM7
          go_wp2_with fail
          refine (left_calls _ _ _ _ _ _ HM8.out).mono ?_; rintro e w17 ⟨rfl, hb17⟩
          have HR9 := Lib.hid (HR8.out.later hb17)
          have HM9 := Lib.hid (HM8.out.later hb17)
          have HB9 := Lib.hid (HB8.out.trans (hb17.mono HB8.out.size))
          have hsz9 := Nat.le_trans hsz8' hb17.size
          clear hb17 HR8 HM8 HB8
          go_wp2_with fail
          refine (rleft_calls _ _ _ _ _ _ HR9.out).mono ?_; rintro e w18 ⟨rfl, hw18⟩
          have HR10 : Hid (RAt w7.heap.size w8.heap.size br Ar (skipD d L2) w18) := by rw [hw18]; exact HR9.out
          have HM10 : Hid (MAt w5.heap.size w7.heap.size bm Am (skipD d L2) w18) := by rw [hw18]; exact HM9.out
          have HB10 : Hid (Below w5.heap.size w5 w18) := by rw [hw18]; exact HB9.out
          have hsz10 : w8.heap.size ≤ w18.heap.size := by rw [hw18]; exact hsz9
          clear hw18 HR9 HM9 HB9
          go_wp2
          go_roundg (ns - (j + 1))
          case measure => omega
          case rel => exact ⟨j + 1, _, by go_num, by omega, rfl, HM10.out, HR10.out, rises_map hrs2.out _, hsz10, HB10.out⟩
        · obtain rfl : j = ns := by omega
          have HO := Lib.hid (HOWN.out.below hB)
          have HTq := Lib.hid (tabs_below HT4.out hB)
          have HXq := Lib.hid (HX4.out.below hB)
          have HBq := Lib.hid (HB4.out.trans (hB.mono HB4.out.size))
          clear hM hR hB hrs HOWN HT4 HX4 HXS4 HB4 hlt
          go_wp2_with fail
          refine (merge_calls _ _ _ _ _ HO.out.rows (by omega) (by rw [hbeg.out]; exact Nat.le_trans hLf.out (by omega)) HTq.out).mono ?_
          rintro e w20 ⟨o, hm, A20, n20, c20, rfl, hown20, hb20⟩
          rw [hbeg.out] at hm
          have HMG := Lib.hid hm
          have hfit : Hid (∀ c ∈ o, c.fits) := fun c hc => by
            obtain ⟨l, hl, hcl⟩ := merged_from hm hLr.out c hc
            rw [HL.out] at hl
            obtain ⟨r, hr, rfl⟩ := List.mem_map.1 hl
            exact (HXq.out.ok r hr).2.2.2.2 c (begC_mem _ c hcl)
          have hn20 : n20 ≤ 720 := by rw [hown20.1]; exact Nat.le_trans (merged_len hm) hLf.out
          have HO20 := Lib.hid (HO.out.below hb20)
          have HX20 := Lib.hid (HXq.out.below hb20)
          have HB20 := Lib.hid (HBq.out.trans (hb20.mono HBq.out.size))
          have HC20 := Lib.hid (hown20.rd Cell.l_len)
          clear hm hown20 hb20 HO HXq HBq HTq
          go_wp2_with fail
          refine (split_calls A20 n20 c20 o row _ HC20.out (by omega)).mono ?_
          rintro e w21 ⟨A21, n21, c21, A22, n22, c22, rfl, h21, h22, hb21, _, _⟩
          have HO21 := Lib.hid (HO20.out.below hb21)
          have HX21 := Lib.hid (HX20.out.below hb21)
          have HB21 := Lib.hid (HB20.out.trans (hb21.mono HB20.out.size))
          have HC21 := Lib.hid (HC20.out.below hb21)
          have HD21 := Lib.hid (h21.rd Cell.l_len)
          have HE21 := Lib.hid (h22.rd Cell.l_len)
          have hn21 : n21 ≤ 720 := by
            rw [h21.1]; unfold belowC
            exact Nat.le_trans (List.length_filter_le _ _) (by rw [← HC20.out.len]; exact hn20)
          have hn22 : n22 ≤ 720 := by
            rw [h22.1]; unfold othersC
            exact Nat.le_trans (List.length_filter_le _ _) (by rw [← HC20.out.len]; exact hn20)
          clear h21 h22 hb21 HO20 HX20 HB20 HC20
          go_wp2_with fail
          refine (rsplit_calls A20 n20 c20 o row _ HC21.out (by omega) (fun c hc => (hfit.out c hc).row) hrow).mono ?_
          rintro e w22 ⟨A31, n31, c31, A32, n32, c32, rfl, h21, h22, hb21, _, _⟩
          have HO22 := Lib.hid (HO21.out.below hb21)
          have HX22 := Lib.hid (HX21.out.below hb21)
          have HB22 := Lib.hid (HB21.out.trans (hb21.mono HB21.out.size))
          have HC22 := Lib.hid (HC21.out.below hb21)
          have HD22 := Lib.hid (HD21.out.below hb21)
          have HE22 := Lib.hid (HE21.out.below hb21)
          have HF22 := Lib.hid (h21.rd Cell.l_len)
          have HG22 := Lib.hid (h22.rd Cell.l_len)
          have hn31 : n31 ≤ 720 := by
            rw [h21.1, ← HD21.out.len]; exact hn21
          have hn32 : n32 ≤ 720 := by
            rw [h22.1, ← HE21.out.len]; exact hn22
          have hq22 := Below.refl w22.heap.size w22
          clear h21 h22 hb21 HO21 HX21 HB21 HC21 HD21 HE21
          go_wp2_with fail
          go_loopg [23] k (fun gk i wr => ∃ q : Nat, i = .int .i64 q ∧ q ≤ k ∧ gk = k - q ∧ Below w22.heap.size w22 wr)
          case atStart => exact ⟨0, rfl, Nat.zero_le _, rfl, hq22⟩
          case round =>
            clear hq22
            obtain ⟨q, rfl, hq, rfl, hbr⟩ := hrel
            obtain ⟨wy, rfl⟩ : ∃ wy : World, wy = wr := ⟨_, rfl⟩
            by_cases hlq : q < k
            · obtain ⟨r, b, off, hr, hA0, _, hrc⟩ := (HX22.out.below hbr).rd.get q hlq
              obtain ⟨r2, b2, off2, hr2, hA2, _, hrc2⟩ := (HO22.out.below hbr).rows.rd.get q hlq
              subst hA0
              subst hA2
              have k0 := later_cell (hrc 0 _ rfl)
              have k1 := later_cell (hrc2 0 _ rfl)
              simp only [Nat.mul_one, Nat.add_zero] at k0 k1
              have hro := (HX22.out.below hbr).ok r (List.mem_of_getElem? hr)
              have hro2 := ((HO22.out.below hbr).2 r2 (List.mem_of_getElem? hr2)).1
              have hrl := hr60.out r (List.mem_of_getElem? hr)
              have hsx : r2.xs = r.xs := by
                have h1 : (out.map Row.xs)[q]? = some r2.xs := by rw [List.getElem?_map, hr2]; rfl
                rw [hxsq.out, List.getElem?_map, hr] at h1
                exact (Option.some.inj h1).symm
              have hsame : Hid (∀ X, Calls Tryd.prog 23 #[.slice r2.A r2.n r2.cap, .slice r.A r.n r.cap] (wy.later X) fun e w'' => e = .returned (.bool true) ∧ ∃ Y, w'' = wy.later Y) := fun X => by
                have := same_calls r2.A r.A r2.n r.n r2.cap r.cap r2.xs r.xs (wy.later X) (hro2.rd.below (later_below _ X)) (hro.1.below (later_below _ X)) (by rw [hro2.rd.len, hsx]; omega) (by rw [hro.1.len]; omega)
                rw [decide_eq_true hsx] at this
                exact calls_later_drew this
              have hq0 : (0 : Int) ≤ (q : Int) := by omega
              have hq1 : (q : Int) < (k : Int) := by omega
              clear hrc hrc2 hr hr2 hro hro2 hrl hsx
              go_wp2
              refine wp_region_later (by kernel_rfl) (by kernel_rfl) ?_
              repeat (go_big_quiet_step ((go_at_call 23; exact hsame.out _)))
              refine wpQuiet_nil ?_
              intro W6 hW6
              have hb6 : Below wy.heap.size wy W6 := by
                obtain ⟨X, rfl⟩ := hW6
                exact later_below _ X
              clear hW6 k0 k1 hsame
              have hbr2 := hbr.trans (hb6.mono hbr.size)
              clear hbr hb6
              go_wp2
              go_roundg (k - (q + 1))
              case measure => omega
              case rel => exact ⟨q + 1, by go_num, by omega, rfl, hbr2⟩
            · obtain rfl : q = k := by omega
              have HX23 := Lib.hid (HX22.out.below hbr)
              have HC23 := Lib.hid (HC22.out.below hbr)
              have HD23 := Lib.hid (HD22.out.below hbr)
              have HE23 := Lib.hid (HE22.out.below hbr)
              have HF23 := Lib.hid (HF22.out.below hbr)
              have HG23 := Lib.hid (HG22.out.below hbr)
              have HB23 := Lib.hid (HB22.out.trans (hbr.mono HB22.out.size))
              clear hbr HO22 HX22 HB22 HC22 HD22 HE22 HF22 HG22 hlq
              go_wp2_with fail
              refine (rmerge_calls _ _ _ _ _ (HX23.out.rows0 HG.out) (by omega) (by rw [← HL.out]; exact Nat.le_trans hLf.out (by omega))).mono ?_
              rintro e w24 ⟨o2, hm2, A24, n24, c24, rfl, hown24, hb24⟩
              rw [← HL.out] at hm2
              obtain rfl := hm2.unique HMG.out
              have HC24 := Lib.hid (HC23.out.below hb24)
              have HD24 := Lib.hid (HD23.out.below hb24)
              have HE24 := Lib.hid (HE23.out.below hb24)
              have HF24 := Lib.hid (HF23.out.below hb24)
              have HG24 := Lib.hid (HG23.out.below hb24)
              have HB24 := Lib.hid (HB23.out.trans (hb24.mono HB23.out.size))
              have HH24 := Lib.hid (hown24.rd Cell.l_len)
              have hn24 : n24 ≤ 720 := by rw [hown24.1, ← HC24.out.len]; exact hn20
              clear hm2 hown24 hb24 HX23 HC23 HD23 HE23 HF23 HG23 HB23
              go_wp2_with fail
              refine (same_calls _ _ _ _ _ _ _ _ _ HC24.out HH24.out (by omega) (by omega)).mono ?_
              rintro e w25 ⟨rfl, q25, hw25⟩
              rw [decide_eq_true rfl]
              have hb25 : Below w24.heap.size w24 w25 := by rw [hw25]; exact below_drewN _ _
              have HD25 := Lib.hid (HD24.out.below hb25)
              have HE25 := Lib.hid (HE24.out.below hb25)
              have HF25 := Lib.hid (HF24.out.below hb25)
              have HG25 := Lib.hid (HG24.out.below hb25)
              have HB25 := Lib.hid (HB24.out.trans (hb25.mono HB24.out.size))
              clear hb25 hw25 HC24 HD24 HE24 HF24 HG24 HH24 HB24
              go_wp2_with fail
              refine (same_calls _ _ _ _ _ _ _ _ _ HD25.out HF25.out (by omega) (by omega)).mono ?_
              rintro e w26 ⟨rfl, q26, hw26⟩
              rw [decide_eq_true rfl]
              have hb26 : Below w25.heap.size w25 w26 := by rw [hw26]; exact below_drewN _ _
              have HE26 := Lib.hid (HE25.out.below hb26)
              have HG26 := Lib.hid (HG25.out.below hb26)
              have HB26 := Lib.hid (HB25.out.trans (hb26.mono HB25.out.size))
              clear hb26 hw26 HD25 HE25 HF25 HG25 HB25
              go_wp2_with fail
              refine (same_calls _ _ _ _ _ _ _ _ _ HE26.out HG26.out (by omega) (by omega)).mono ?_
              rintro e w27 ⟨rfl, q27, rfl⟩
              rw [decide_eq_true rfl]
              go_wp2
              go_ret
              exact ⟨rfl, HB26.out.trans ((below_drewN w26 q27).mono HB26.out.size)⟩
end Go.Proofs.YtmabmnkdigdaiaaDoor
