/-
  joistref10's Skip and Left.
-/
import Derived.Test.YtmabmnkdigdaiaaDoorJRNext
namespace Go.Proofs.YtmabmnkdigdaiaaDoor
open Go.RowKit

theorem blk_set {base lim q b o o' : Nat} {rows : List Row} {r r' : Row} (h : ∀ r ∈ rows, ∀ a, r.A = some a → base ≤ a.block ∧ a.block < lim) (hi : rows[q]? = some r) (hA : r.A = some ⟨b, o, none⟩) (hA' : r'.A = some ⟨b, o', none⟩) : ∀ x ∈ rows.set q r', ∀ a, x.A = some a → base ≤ a.block ∧ a.block < lim := fun x hx a ha => by
  rcases List.mem_or_eq_of_mem_set hx with hx | rfl
  · exact h x hx a ha
  · rw [hA'] at ha
    injection ha with ha
    rw [← ha]
    exact h r (List.mem_of_getElem? hi) ⟨b, o, none⟩ hA
abbrev ahead (c : Cell) : Cell → Bool := fun y => decide (y.order c < 0)
set_option maxRecDepth 100000 in
set_option maxHeartbeats 8000000 in
theorem rskip_calls (base lim bm : Nat) (A : Option Addr) (L : List (List Cell)) (c : Cell) (w : World) (h : RAt base lim bm A L w) (hcs : c.small) :
    Calls Tryd.prog 19 #[.pointer (some ⟨bm, 0, none⟩), c.v] w fun e w' => e = .returned (.tuple #[]) ∧ RAt base lim bm A (skipD c L) w' ∧ Only (fun k => A = some ⟨k, 0, none⟩) w w' := by
  obtain ⟨k, cap, rows, hat, hL, hlim⟩ := h
  have hblk0 := Lib.hid hlim
  clear hlim
  have hn7 := hat.2.2.2.2.2.2
  have hlen : Hid (k = rows.length) := hat.2.2.1.1
  have HL := Lib.hid hL
  have HCS := Lib.hid hcs
  have hb0 := (Below.refl w.heap.size w).alloc (Nat.le_refl _) (.cells c.cells 35)
  have hat2 := hat.below hb0
  have hc8 : At8 (w.alloc (.cells c.cells 35)) w.heap.size 0 c := fun j v hv => by
    rw [World.cell?_alloc_new, Nat.zero_add]; simpa [Cell.l] using hv
  have hAw : Hid (∀ g, A = some ⟨g, 0, none⟩ → ¬ g = w.heap.size) := fun g hg => by
    rcases hat.2.2.1.shape with ⟨h1, _⟩ | ⟨g', h1, _, h2⟩
    · rw [h1] at hg; cases hg
    · rw [h1] at hg; have := blk_of hg; omega
  have HAT2' := Lib.hid hat2
  clear hat hL hat2 hcs
  go_enter Tryd.func19, Tryd.ntmps19
  go_wp2
  have hL0 : Hid (rows.map Row.xs = (L.take 0).map (List.dropWhile (ahead c)) ++ L.drop 0) := by unfold Hid; simpa using HL.out
  have hLn : Hid (L.length = k) := by unfold Hid; rw [← HL.out, List.length_map]; exact hlen.out.symm
  have HB0 := Lib.hid (hb0.only (fun k => A = some ⟨k, 0, none⟩))
  clear hb0
  generalize w.alloc (.cells c.cells 35) = W0 at *
  generalize w.heap.size = b0 at *
  go_loopg [4] k (fun gk i wr => ∃ (q : Nat) (rows2 : List Row), i = .int .i64 q ∧ q ≤ k ∧ gk = k - q ∧ RowsAt base bm A k cap rows2 wr ∧ Hid (rows2.map Row.xs = (L.take q).map (List.dropWhile (ahead c)) ++ L.drop q) ∧ At8 wr b0 0 c ∧ Only (fun k => A = some ⟨k, 0, none⟩) W0 wr ∧ Hid (∀ r ∈ rows2, ∀ a, r.A = some a → base ≤ a.block ∧ a.block < lim))
  case atStart => exact ⟨0, rows, rfl, Nat.zero_le _, rfl, HAT2'.out, hL0.out, hc8, Only.refl _ _, hblk0.out⟩
  case round =>
    clear hc8 hL0
    obtain ⟨q, rows0, rfl, hq, rfl, hat, hrows, hc8, honly, hblk1⟩ := hrel
    have hhead := hat.1
    by_cases hlt2 : q < k
    · obtain ⟨r0, g, hr0, hA, _, _, _, _⟩ := hat.get q hlt2
      subst hA
      have hb00 : Hid (¬ g = b0) := hAw.out g rfl
      have hLq : L[q]? = some r0.xs := by
        have h1 : (rows0.map Row.xs)[q]? = some r0.xs := by rw [List.getElem?_map, hr0]; rfl
        rw [hrows.out, List.getElem?_append_right (by simp; have := hLn.out; omega)] at h1
        rw [List.getElem?_drop] at h1
        rw [List.length_map, List.length_take, Nat.min_eq_left (by have := hLn.out; omega)] at h1
        rwa [show q + (q - q) = q from by omega] at h1
      have hd0 : L.drop q = r0.xs :: L.drop (q + 1) := by
        rw [List.drop_eq_getElem_cons (by have := hLn.out; omega)]
        congr 1
        rw [List.getElem?_eq_getElem (by have := hLn.out; omega)] at hLq
        exact Option.some.inj hLq
      have hin0 : Hid (rows0.map Row.xs = (L.take q).map (List.dropWhile (ahead c)) ++ r0.xs :: L.drop (q + 1)) := by unfold Hid; rw [← hd0]; exact hrows.out
      have htk : Hid ((L.take (q + 1)).map (List.dropWhile (ahead c)) = (L.take q).map (List.dropWhile (ahead c)) ++ [r0.xs.dropWhile (ahead c)]) := by
        unfold Hid; rw [take_succ hLq, List.map_append]; rfl
      have hlq : Hid (((L.take q).map (List.dropWhile (ahead c))).length = q) := by unfold Hid; rw [List.length_map, List.length_take]; have := hLn.out; omega
      generalize r0.xs = l0 at *
      have HAT := Lib.hid hat
      have HC8 := Lib.hid hc8
      have HON := Lib.hid honly
      have hk0 : (0 : Int) ≤ (q : Int) := by omega
      have hk1 : (q : Int) < (k : Int) := by omega
      clear hat hr0 hLq hd0 hrows hc8 honly
      go_wp2
      go_loopg [] l0.length (fun gk wr => ∃ (rows2 : List Row) (cur : List Cell), RowsAt base bm (some ⟨g, 0, none⟩) k cap rows2 wr ∧ Hid (rows2.map Row.xs = (L.take q).map (List.dropWhile (ahead c)) ++ cur :: L.drop (q + 1)) ∧ Hid (cur.dropWhile (ahead c) = l0.dropWhile (ahead c)) ∧ gk = cur.length ∧ At8 wr b0 0 c ∧ Only (fun k => (some ⟨g, 0, none⟩ : Option Addr) = some ⟨k, 0, none⟩) W0 wr ∧ Hid (∀ r ∈ rows2, ∀ a, r.A = some a → base ≤ a.block ∧ a.block < lim))
      case atStart => exact ⟨rows0, l0, HAT.out, hin0.out, rfl, rfl, HC8.out, HON.out, hblk1.out⟩
      case round =>
        clear hhead
        obtain ⟨rows2, cur, hatq, hin, hcur, rfl, hc8, honly, hblk⟩ := hrel
        have HAT2 := Lib.hid hatq
        have hhead := hatq.1
        obtain ⟨r, g', hr, hg', _, _, hc, hfar⟩ := hatq.get q hlt2
        injection hg' with hg'
        injection hg' with hg' _ _
        subst hg'
        have hrcur : r.xs = cur := by
          have h1 : (rows2.map Row.xs)[q]? = some r.xs := by rw [List.getElem?_map, hr]; rfl
          rw [hin.out, List.getElem?_append_right (by rw [hlq.out]; exact Nat.le_refl _), hlq.out, Nat.sub_self] at h1
          exact (Option.some.inj h1).symm
        have hHd := later_cell hhead
        have hC := later_cell hc
        have Hr := Lib.hid hr
        cases cur with
        | nil =>
          have hrn : r.n = 0 := by have := hfar.rd.len; rw [hrcur] at this; simpa using this
          have hdec : decide ((0 : Int) < 0) = false := by simp
          rw [hrn] at hC
          have hnew : Hid (rows2.map Row.xs = (L.take (q + 1)).map (List.dropWhile (ahead c)) ++ L.drop (q + 1)) := by
            unfold Hid
            rw [htk.out, hin.out, ← hcur.out]
            simp
          clear hatq hr hfar hc hrcur
          go_wp2
          refine wp_region_later (by kernel_rfl) (by kernel_rfl) ?_
          repeat (go_big_quiet_step (fail))
          refine wpQuiet_nil ?_
          intro W1 hW1
          have hB1 : Below wr.heap.size wr W1 := by
            obtain ⟨X, rfl⟩ := hW1
            exact later_below wr X
          clear hW1 hC hHd 
          have hat1 := HAT2.out.below hB1
          have hc1 := hc8.below hB1
          have ho1 := honly.trans (hB1.only _)
          clear hc8 honly hhead
          have HAT1 := Lib.hid hat1
          clear hat1
          go_wp2
          go_roundg (k - (q + 1))
          case measure => omega
          case rel => exact ⟨q + 1, rows2, by go_num, by omega, rfl, HAT1.out, hnew.out, hc1, ho1, hblk.out⟩
        | cons d ys =>
          obtain ⟨b3, o3, hA3, hn0, hd8, hds⟩ := hfar.first hrcur
          have hsm := hfar.small
          have hroom := hfar.room
          have HDS := Lib.hid hds
          rw [hA3] at hC
          have hn1 : (0 : Int) < (r.n : Int) := by omega
          have hdec : decide ((0 : Int) < (r.n : Int)) = true := decide_eq_true hn1
          obtain ⟨k0, k1, k2, k3, k4, k5, k6, k7⟩ := hd8.later
          obtain ⟨l0', l1, l2, l3, l4, l5, l6, l7⟩ := hc8.later
          obtain ⟨o, ho⟩ : ∃ o, o = d.order c := ⟨_, rfl⟩
          have Hord : Hid (∀ X, Calls Tryd.prog 27 #[d.v, c.v] (wr.later X) fun e w'' => e = .returned (.int .i64 o) ∧ ∃ Y, w'' = wr.later Y) := fun X => by rw [ho]; exact calls_later (rorder_calls d c _ HDS.out HCS.out)
          have hxs := Lib.hid hrcur
          have HO := Lib.hid ho
          clear hatq hr hfar hc hrcur hds hd8 ho
          by_cases h0 : o < 0
          · have hnewd : Hid (ys.dropWhile (ahead c) = l0.dropWhile (ahead c)) := by
              unfold Hid
              rw [← hcur.out, List.dropWhile_cons, if_pos (decide_eq_true (by rw [← HO.out]; exact h0))]
            have hset : Hid ((rows2.map Row.xs).set q ys = (L.take q).map (List.dropWhile (ahead c)) ++ ys :: L.drop (q + 1)) := by
              unfold Hid
              rw [hin.out, List.set_append_right _ _ (by rw [hlq.out]; exact Nat.le_refl _), hlq.out, Nat.sub_self]; rfl
            by_cases hcap : r.cap = 1
            · have hrn : r.n = 1 := by omega
              have hnew : Hid ((rows2.set q ⟨some ⟨b3, o3, none⟩, 0, 0, ys⟩).map Row.xs = (L.take q).map (List.dropWhile (ahead c)) ++ ys :: L.drop (q + 1)) := by
                unfold Hid; rw [List.map_set]; exact hset.out
              go_wp2
              refine wp_region_later (by kernel_rfl) (by kernel_rfl) ?_
              repeat (go_big_quiet_step ((go_at_call 27; exact Hord.out _)))
              refine wpQuiet_nil ?_
              intro W1 hW1
              have hB1 : Below wr.heap.size wr W1 := by
                obtain ⟨X, rfl⟩ := hW1
                exact later_below wr X
              clear hW1 hC hHd k0 k1 k2 k3 k4 k5 k6 k7 l0' l1 l2 l3 l4 l5 l6 l7 Hord
              have hat1 := HAT2.out.below hB1
              have hc1 := hc8.below hB1
              have ho1 := honly.trans (hB1.only _)
              clear hc8 honly hhead
              have hf1 := hat1.get q (by omega)
              obtain ⟨r1, g1, e1, e2, _, _, e3, hfar1⟩ := hf1
              injection e2 with e2
              injection e2 with e2 _ _
              subst e2
              have er : r1 = r := Option.some.inj (e1.symm.trans Hr.out)
              subst er
              have hft : Far W1 bm (some ⟨g, 0, none⟩) ⟨some ⟨b3, o3, none⟩, 0, 0, ys⟩ := by
                have h1 : r1 = ⟨some ⟨b3, o3, none⟩, r1.n, r1.cap, d :: ys⟩ := by rw [← hA3, ← hxs.out]
                rw [h1] at hfar1
                have h2 := hfar1.tail o3 (.inl (by omega))
                rwa [show r1.n - 1 = 0 by omega, show r1.cap - 1 = 0 by omega] at h2
              have hput := Lib.hid (hat1.put Hr.out hft)
              have hblk3 := Lib.hid (blk_set hblk.out e1 hA3 (r' := ⟨some ⟨b3, o3, none⟩, 0, 0, ys⟩) rfl)
              have hhead1 := hat1.1
              have hfree1 : ∀ j, W1.frozen? ⟨g, j, none⟩ = false := hat1.2.2.1.2.frozenAt
              have hgm : g ≠ bm := hat1.2.2.2.2.1 g rfl
              rw [hA3] at e3
              have HAT1 := Lib.hid hat1
              clear hat1 hft hfar1
              go_wp2
              go_region
              go_wp2
              go_roundg ys.length
              case measure => simp
              case rel =>
                obtain ⟨hp1, hp2⟩ := hput.out
                exact ⟨_, ys, hp1.below (below_drew1 _), hnew.out, hnewd.out, rfl, (hc1.only hp2 (fun e => hb00.out (blk_of e))).below (below_drew1 _), (ho1.trans hp2).trans ((below_drew1 _).only _), hblk3.out⟩
            · have hnew : Hid ((rows2.set q ⟨some ⟨b3, o3 + 8, none⟩, r.n - 1, r.cap - 1, ys⟩).map Row.xs = (L.take q).map (List.dropWhile (ahead c)) ++ ys :: L.drop (q + 1)) := by
                unfold Hid; rw [List.map_set]; exact hset.out
              go_wp2
              refine wp_region_later (by kernel_rfl) (by kernel_rfl) ?_
              repeat (go_big_quiet_step ((go_at_call 27; exact Hord.out _)))
              refine wpQuiet_nil ?_
              intro W1 hW1
              have hB1 : Below wr.heap.size wr W1 := by
                obtain ⟨X, rfl⟩ := hW1
                exact later_below wr X
              clear hW1 hC hHd k0 k1 k2 k3 k4 k5 k6 k7 l0' l1 l2 l3 l4 l5 l6 l7 Hord
              have hat1 := HAT2.out.below hB1
              have hc1 := hc8.below hB1
              have ho1 := honly.trans (hB1.only _)
              clear hc8 honly hhead
              have hf1 := hat1.get q (by omega)
              obtain ⟨r1, g1, e1, e2, _, _, e3, hfar1⟩ := hf1
              injection e2 with e2
              injection e2 with e2 _ _
              subst e2
              have er : r1 = r := Option.some.inj (e1.symm.trans Hr.out)
              subst er
              have hft : Far W1 bm (some ⟨g, 0, none⟩) ⟨some ⟨b3, (o3 + 8), none⟩, r1.n - 1, r1.cap - 1, ys⟩ := by
                have h1 : r1 = ⟨some ⟨b3, o3, none⟩, r1.n, r1.cap, d :: ys⟩ := by rw [← hA3, ← hxs.out]
                rw [h1] at hfar1
                exact hfar1.tail (o3 + 8) (.inr rfl)
              have hput := Lib.hid (hat1.put Hr.out hft)
              have hblk3 := Lib.hid (blk_set hblk.out e1 hA3 (r' := ⟨some ⟨b3, o3 + 8, none⟩, r1.n - 1, r1.cap - 1, ys⟩) rfl)
              have hhead1 := hat1.1
              have hfree1 : ∀ j, W1.frozen? ⟨g, j, none⟩ = false := hat1.2.2.1.2.frozenAt
              have hgm : g ≠ bm := hat1.2.2.2.2.1 g rfl
              rw [hA3] at e3
              have HAT1 := Lib.hid hat1
              clear hat1 hft hfar1
              go_wp2
              go_region
              go_wp2
              go_roundg ys.length
              case measure => simp
              case rel =>
                obtain ⟨hp1, hp2⟩ := hput.out
                exact ⟨_, ys, hp1.below (below_drew1 _), hnew.out, hnewd.out, rfl, (hc1.only hp2 (fun e => hb00.out (blk_of e))).below (below_drew1 _), (ho1.trans hp2).trans ((below_drew1 _).only _), hblk3.out⟩
          · have hnew : Hid (rows2.map Row.xs = (L.take (q + 1)).map (List.dropWhile (ahead c)) ++ L.drop (q + 1)) := by
              unfold Hid
              rw [htk.out, hin.out, ← hcur.out, List.dropWhile_cons, if_neg (by rw [ahead, ← HO.out]; simpa using h0)]
              simp
            go_wp2
            refine wp_region_later (by kernel_rfl) (by kernel_rfl) ?_
            repeat (go_big_quiet_step ((go_at_call 27; exact Hord.out _)))
            refine wpQuiet_nil ?_
            intro W1 hW1
            have hB1 : Below wr.heap.size wr W1 := by
              obtain ⟨X, rfl⟩ := hW1
              exact later_below wr X
            clear hW1 hC hHd k0 k1 k2 k3 k4 k5 k6 k7 l0' l1 l2 l3 l4 l5 l6 l7 Hord
            have hat1 := HAT2.out.below hB1
            have hc1 := hc8.below hB1
            have ho1 := honly.trans (hB1.only _)
            clear hc8 honly hhead
            have HAT1 := Lib.hid hat1
            clear hat1
            go_wp2
            go_roundg (k - (q + 1))
            case measure => omega
            case rel => exact ⟨q + 1, rows2, by go_num, by omega, rfl, HAT1.out, hnew.out, hc1, ho1, hblk.out⟩
    · obtain rfl : q = k := by omega
      have hfin : Hid (rows0.map Row.xs = skipD c L) := by
        have := hrows.out
        rw [List.take_of_length_le (by have := hLn.out; omega), List.drop_eq_nil_of_le (by have := hLn.out; omega), List.append_nil] at this
        exact this
      have HAT := Lib.hid hat
      clear hat
      go_wp2
      go_end0
      exact ⟨rfl, ⟨_, _, _, HAT.out, hfin.out, hblk1.out⟩, HB0.out.trans honly⟩

set_option maxHeartbeats 4000000 in
theorem rleft_calls (base lim bm : Nat) (A : Option Addr) (L : List (List Cell)) (w : World) (h : RAt base lim bm A L w) :
    Calls Tryd.prog 17 #[.pointer (some ⟨bm, 0, none⟩)] w fun e w' => e = .returned (.int .i64 (leftC L)) ∧ w' = w := by
  obtain ⟨n, cap, rows, hat, hL, _⟩ := h
  have hn7 := hat.2.2.2.2.2.2
  have hlen : Hid (n = rows.length) := hat.2.2.1.1
  have hhead := hat.1
  have HL := Lib.hid hL
  have HAT := Lib.hid hat
  clear hat hL
  go_enter Tryd.func17, Tryd.ntmps17
  go_wp2
  go_loop [3, 4] (fun tot i => ∃ (k s : Nat), i = .int .i64 k ∧ tot = .int .i64 s ∧ k ≤ n ∧ s ≤ k * 1000000 ∧ Hid (s = leftC (L.take k))) (fun _ i => n - (intOf i).toNat)
  case atStart => exact ⟨0, 0, rfl, rfl, Nat.zero_le _, by omega, rfl⟩
  case round =>
    obtain ⟨k, s, rfl, rfl, hk, hs, hsk⟩ := hrel
    by_cases hlt : k < n
    · obtain ⟨r, g, hr, rfl, _, _, hc, hfar⟩ := HAT.out.get k hlt
      have hsm := hfar.small
      have hLk : L[k]? = some r.xs := by rw [← HL.out, List.getElem?_map, hr]; rfl
      have hst : Hid (leftC (L.take (k + 1)) = s + r.n) := by
        unfold Hid
        rw [take_succ hLk, hfar.rd.len, hsk.out]
        unfold leftC
        simp
      have hk0 : (0 : Int) ≤ (k : Int) := by omega
      have hk1 : (k : Int) < (n : Int) := by omega
      clear hr hfar hLk
      go_wp2
      go_round
      case rel => exact ⟨k + 1, s + r.n, by go_num, by go_num, by omega, by omega, hst.out.symm⟩
      case measure => simp [intOf]; omega
    · obtain rfl : k = n := by omega
      go_wp2
      go_ret
      refine ⟨ret_int ?_, rfl⟩
      have := hsk.out
      rw [List.take_of_length_le (by rw [← HL.out, List.length_map]; have := hlen.out; omega)] at this
      rw [this]
end Go.Proofs.YtmabmnkdigdaiaaDoor
