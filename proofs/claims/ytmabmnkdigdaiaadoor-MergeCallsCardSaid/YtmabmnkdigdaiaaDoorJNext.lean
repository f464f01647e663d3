/-
  The merger's Skip, Next and Left.
-/
import Derived.Test.YtmabmnkdigdaiaaDoorJMerge
namespace Go.Proofs.YtmabmnkdigdaiaaDoor
open Go.RowKit

/-- A merger at block bm, its row at A, that holds what is left. -/
def MAt (base lim bm : Nat) (A : Option Addr) (L : List (List Cell)) (w : World) : Prop :=
  ∃ n cap rs, HeapAt w base bm A n cap rs ∧ HeapFrom Run.less 0 n rs ∧ (∀ r ∈ rs, r.xs ≠ []) ∧ Rep rs L ∧ ∀ r ∈ rs, r.b < lim
abbrev Mine (bm : Nat) (A : Option Addr) : Nat → Prop := fun k => k = bm ∨ A = some ⟨k, 0, none⟩

/-- How many cells lie in the row's runs. -/
def muW (bm : Nat) (w : World) : Nat := match w.cell? ⟨bm, 0, none⟩ with
  | some (.slice (some a) n _) => ((List.range n).map fun i => match w.cell? ⟨a.block, i * 2, none⟩ with
    | some (.slice _ k _) => k
    | _ => 0).sum
  | _ => 0
theorem muW_of {w : World} {base bm n cap : Nat} {A : Option Addr} {rs : List Run} (h : HeapAt w base bm A n cap rs) : muW bm w = (rs.map Run.n).sum := by
  unfold muW
  rw [h.head]
  rcases h.own.shape with ⟨hA, hx⟩ | ⟨g, hA, _, _⟩
  · subst hA; subst hx; rfl
  · subst hA
    have hl := h.own.1
    have : (List.range n).map (fun i => match w.cell? ⟨g, i * 2, none⟩ with
      | some (.slice _ k _) => k
      | _ => 0) = rs.map Run.n := by
      apply List.ext_getElem
      · simp [hl]
      · intro i h1 h2
        simp at h1 h2
        obtain ⟨r, g', e1, e2, _, _, e3, _, _⟩ := h.get i h1
        injection e2 with e2
        injection e2 with e2
        subst e2
        simp only [List.getElem_map, List.getElem_range, e3]
        rw [List.getElem?_eq_getElem h2] at e1
        injection e1 with e1
        rw [e1]
    exact congrArg List.sum this
theorem perm_sum {l l' : List Nat} (h : l.Perm l') : l.sum = l'.sum := by
  induction h with
  | nil => rfl
  | cons _ _ ih => simp [ih]
  | swap => simp; omega
  | trans _ _ h1 h2 => exact h1.trans h2
/-- One cell of the top's run is passed over. -/
theorem PassOut.mu {base bm n cap : Nat} {A : Option Addr} {x : Run} {rest : List Run} {w w' : World} (h : HeapAt w base bm A n cap (x :: rest)) (hx : x.xs ≠ []) (hp : PassOut base bm A x rest w w') : muW bm w' < muW bm w := by
  obtain ⟨n', cap', rs', h1, _, _, h4, _⟩ := hp
  rw [muW_of h, muW_of h1]
  have e := (h.ok x (by simp)).rd.len
  have hpos : 0 < x.xs.length := List.length_pos_iff.2 hx
  rcases h4 with ⟨_, h5⟩ | ⟨_, x', _, h7, _, h5⟩
  · rw [perm_sum (h5.map Run.n), List.map_cons, List.sum_cons]; omega
  · have e' := (h1.ok x' (h5.mem_iff.2 (by simp))).rd.len
    rw [h7, List.length_tail] at e'
    rw [perm_sum (h5.map Run.n), List.map_cons, List.sum_cons, List.map_cons, List.sum_cons]; omega
theorem PassOut.at_ {base lim bm : Nat} {A : Option Addr} {x : Run} {rest : List Run} {L : List (List Cell)} {w w' : World} (hr : Rep (x :: rest) L) (hb : ∀ r ∈ x :: rest, r.b < lim) {t : Nat} (ht : x.turn = t) (hp : PassOut base bm A x rest w w') : MAt base lim bm A (L.set t x.xs.tail) w' := by
  obtain ⟨n', cap', rs', h1, h2, h3, h4, _⟩ := hp
  rcases h4 with ⟨h6, h5⟩ | ⟨_, x', h6, h7, h8, h5⟩
  · refine ⟨n', cap', rs', h1, h2, h3, ?_, fun r hr => hb r (by simp [h5.mem_iff.1 hr])⟩
    rw [h6]
    exact (hr.drop ht).perm h5
  · refine ⟨n', cap', rs', h1, h2, h3, ?_, fun r hr => ?_⟩
    · rw [← h7]
      exact (hr.tail ht h6).perm h5
    · rcases List.mem_cons.1 (h5.mem_iff.1 hr) with rfl | hr
      · rw [h8]; exact hb x (by simp)
      · exact hb r (by simp [hr])
theorem MAt.only {base lim bm : Nat} {A : Option Addr} {L : List (List Cell)} {w w' : World} {S : Nat → Prop} (h : MAt base lim bm A L w) (ho : Only S w w') (hbm : ¬ S bm) (hA : ∀ g, A = some ⟨g, 0, none⟩ → ¬ S g) (hS : ∀ i, i < lim → ¬ S i) : MAt base lim bm A L w' := by
  obtain ⟨n, cap, rs, h1, h2, h3, h4, h5⟩ := h
  refine ⟨n, cap, rs, ⟨ho.cell h1.head hbm, (only_frozen ho (lt_of_cell h1.head) hbm).trans h1.free, h1.own.only ho hA, h1.below, h1.sep, fun r hr => (h1.ok r hr).only ho (hS r.b (h5 r hr)), h1.few⟩, h2, h3, h4, h5⟩
theorem MAt.later {base lim bm : Nat} {A : Option Addr} {L : List (List Cell)} {w w' : World} (h : MAt base lim bm A L w) (hb : Below w.heap.size w w') : MAt base lim bm A L w' := by
  obtain ⟨n, cap, rs, h1, h2⟩ := h
  exact ⟨n, cap, rs, h1.later hb, h2⟩

theorem below_drewN (w : World) : ∀ n, Below w.heap.size w (w.drewN n) := by
  intro n
  induction n with
  | zero => exact Below.refl _ _
  | succ n ih => exact ih.trans (below_drew1 (w.drewN n) |>.mono ih.size)

set_option maxHeartbeats 8000000 in
theorem skip_calls (base lim bm : Nat) (A : Option Addr) (L : List (List Cell)) (c : Cell) (w : World) (h : MAt base lim bm A L w) (hs : ∀ l ∈ L, Rises l) :
    Calls Tryd.prog 18 #[.pointer (some ⟨bm, 0, none⟩), c.v] w fun e w' => e = .returned (.tuple #[]) ∧ MAt base lim bm A (skipD c L) w' ∧ Only (Mine bm A) w w' := by
  have H := Lib.hid h
  have HS := Lib.hid hs
  clear h hs
  go_enter Tryd.func18, Tryd.ntmps18
  go_wp2
  obtain ⟨q, hbox, hcell⟩ : ∃ q : Below w.heap.size w (w.alloc (.cells c.cells 35)), At8 (w.alloc (.cells c.cells 35)) w.heap.size 0 c ∧ True := ⟨(Below.refl _ _).alloc (Nat.le_refl _) _, fun j v hv => by rw [World.cell?_alloc_new, Nat.zero_add]; simpa [Cell.l] using hv, trivial⟩
  clear hcell
  have hm0 := H.out.later q
  have hq := q.only (Mine bm A)
  have hb1 : Hid (¬ Mine bm A w.heap.size) := fun e => by
    obtain ⟨n, cap, rs, h1, _⟩ := H.out
    rcases e with e | e
    · have := lt_of_cell h1.head; simp only at this; omega
    · rcases h1.own.shape with ⟨h2, _⟩ | ⟨g, h2, _, h3⟩
      · rw [h2] at e; cases e
      · rw [h2] at e; injection e with e; injection e with e; omega
  generalize w.alloc (.cells c.cells 35) = W0 at *
  generalize w.heap.size = b0 at *
  clear q
  go_loopw [] (fun wr => ∃ L1 : List (List Cell), MAt base lim bm A L1 wr ∧ At8 wr b0 0 c ∧ Only (Mine bm A) w wr ∧ Hid (skipD c L1 = skipD c L)) (fun wr => muW bm wr)
  case atStart => exact ⟨L, hm0, hbox, hq, rfl⟩
  case round =>
    clear hm0 hbox hq
    obtain ⟨L1, ⟨n, cap, rs, hh, hd, hne, hrep, hlim⟩, hc8, honly, hsk⟩ := hrel
    have hhead := hh.head
    have hlen := hh.own.1
    cases rs with
    | nil =>
      have hlen' : n = 0 := by simpa using hlen
      subst hlen'
      have hfin : Hid (L1 = skipD c L) := by
        rw [← hsk.out]
        exact (none_dropWhile _ (fun i d ys hi => by obtain ⟨r, hr, _⟩ := hrep.all i _ hi (by simp); cases hr)).symm
      have HM : Hid (MAt base lim bm A L1 wr) := ⟨0, cap, [], hh, hd, hne, hrep, hlim⟩
      clear hh hd hne hrep hlim hlen
      have hdec : decide ((0 : Int) < 0) = false := by simp
      go_wp2
      go_quiet (fail)
      go_wp2
      go_end0
      have hb := below_drewN wr nq
      exact ⟨rfl, by rw [← hfin.out]; exact HM.out.later hb, honly.trans (hb.only _)⟩
    | cons x rest =>
      have hlen' : n = rest.length + 1 := by simpa using hlen
      subst hlen'
      have hx := hne x (by simp)
      obtain ⟨r, g, h1, rfl, _, _, c0, c1, ok1⟩ := hh.get 0 (by omega)
      obtain rfl : x = r := by simpa using h1
      obtain ⟨n1, a8⟩ := ok1.first hx
      obtain ⟨t, ht, hbest, hLt⟩ := hrep.best hlen hd hx
      have hfew := hh.few
      have hsm := ok1.small
      simp only [Nat.zero_mul, Nat.zero_add] at c0 c1
      have hC0 := later_cell c0
      have hHd := later_cell hhead
      obtain ⟨k0, k1, k2, k3, k4, k5, k6, k7⟩ := a8.later
      obtain ⟨l0, l1, l2, l3, l4, l5, l6, l7⟩ := hc8.later
      have hlen1 : (0 : Int) < (rest.length : Int) + 1 := by omega
      have hn1 : (0 : Int) < (x.n : Int) := by omega
      obtain ⟨o, ho⟩ : ∃ o, o = x.hd.order c := ⟨_, rfl⟩
      have Hord : Hid (∀ X, Calls Tryd.prog 33 #[x.hd.v, c.v] (wr.later X) fun e w'' => e = .returned (.int .i64 o) ∧ ∃ Y, w'' = wr.later Y) := fun X => by rw [ho]; exact calls_later (order_calls x.hd c _)
      have HO := Lib.hid ho
      have HH := Lib.hid hh
      have HD := Lib.hid hd
      have HN := Lib.hid hne
      have HR := Lib.hid hrep
      have HL := Lib.hid hlim
      have HB := Lib.hid hbest
      have HT := Lib.hid ht
      have HLt := Lib.hid hLt
      clear hh hd hne hrep hlim hlen h1 ok1 a8 c0 c1 hhead ho hbest ht hLt hx
      go_wp2
      refine wp_region_later (by kernel_rfl) (by kernel_rfl) ?_
      repeat (go_big_quiet_step ((go_at_call 33; exact Hord.out _)))
      refine wpQuiet_nil ?_
      intro W1 hW1
      have hB1 : Below wr.heap.size wr W1 := by
        obtain ⟨X, rfl⟩ := hW1
        exact later_below wr X
      clear hW1 hC0 hHd k0 k1 k2 k3 k4 k5 k6 k7 l0 l1 l2 l3 l4 l5 l6 l7 Hord
      have hh1 := HH.out.later hB1
      have hc1 := hc8.below hB1
      have ho1 := honly.trans (hB1.only _)
      have hmu : Hid (muW bm W1 = muW bm wr) := by
        unfold Hid
        rw [muW_of hh1, muW_of HH.out]
      clear hc8 honly
      by_cases hlt : o < 0
      · have hp := pass_calls base bm _ _ cap x rest W1 hh1 HD.out HN.out
        have Hp := Lib.hid hp
        clear hp
        go_wp2_with (go_at_call 34; refine (Hp.out).mono ?_; clear Hp; rintro e w2 ⟨rfl, hp⟩; have hp := Lib.hid hp)
        obtain ⟨n', cap', rs', p1, p2, p3, p4, p5⟩ := hp.out
        go_roundw
        case rel =>
          refine ⟨L1.set t x.xs.tail, hp.out.at_ HR.out HL.out HT.out, hc1.only p5 hb1.out, ho1.trans p5, ?_⟩
          unfold Hid
          rw [← hsk.out]
          exact set_dropWhile _ HLt.out (decide_eq_true (by rw [← HO.out]; exact hlt))
        case measure =>
          have h3 := hp.out.mu hh1 (HN.out x (by simp))
          rw [hmu.out] at h3
          exact h3
      · go_wp2
        go_end0
        refine ⟨rfl, ?_, ho1⟩
        have hfin : L1 = skipD c L := by
          rw [← hsk.out]
          refine (none_dropWhile _ (fun i d ys hi => ?_)).symm
          have h4 := HB.out.2 i d ys hi
          have h5 := HO.out
          apply decide_eq_false
          intro h6
          have h7 := order_is.le_lt (a := x.hd) (b := d) (c := c) (by omega) h6
          omega
        rw [← hfin]
        exact ⟨_, _, _, hh1, HD.out, HN.out, HR.out, HL.out⟩

abbrev set8 (W : World) (b : Nat) (c : Cell) : World := (((((((W.setCell ⟨b, 0, none⟩ (.string c.row)).setCell ⟨b, 1, none⟩ (.string c.fam)).setCell ⟨b, 2, none⟩ (.string c.qual)).setCell ⟨b, 3, none⟩ (.int .i64 c.time)).setCell ⟨b, 4, none⟩ (.int .i64 c.kind)).setCell ⟨b, 5, none⟩ (.int .i64 c.vk)).setCell ⟨b, 6, none⟩ (.int .i64 c.vn)).setCell ⟨b, 7, none⟩ (.string c.vs)
theorem only_set1 (W : World) (b j : Nat) (v : Value) : Only (fun k => k = b) W (W.setCell ⟨b, j, none⟩ v) := only_setCell W ⟨b, j, none⟩ v
theorem only_set8 (W : World) (b : Nat) (c : Cell) : Only (fun k => k = b) W (set8 W b c) :=
  (only_set1 W b 0 _).trans ((only_set1 _ b 1 _).trans ((only_set1 _ b 2 _).trans ((only_set1 _ b 3 _).trans ((only_set1 _ b 4 _).trans ((only_set1 _ b 5 _).trans ((only_set1 _ b 6 _).trans (only_set1 _ b 7 _)))))))
abbrev Cell.zero : Cell := ⟨⟨#[]⟩, ⟨#[]⟩, ⟨#[]⟩, 0, 0, 0, 0, ⟨#[]⟩⟩
def NextOut (base lim bm : Nat) (A : Option Addr) (L : List (List Cell)) (w : World) (e : Ending) (w' : World) : Prop :=
  Only (Mine bm A) w w' ∧ (((∀ l ∈ L, l = []) ∧ e = .returned (.tuple #[Cell.zero.v, .int .i64 0, .bool false]) ∧ MAt base lim bm A L w') ∨
    ∃ (t : Nat) (c : Cell), IsBest L t c ∧ e = .returned (.tuple #[c.v, .int .i64 t, .bool true]) ∧ MAt base lim bm A (nextD c L) w')

set_option maxHeartbeats 8000000 in
theorem next_calls (base lim bm : Nat) (A : Option Addr) (L : List (List Cell)) (w : World) (h : MAt base lim bm A L w) (hs : ∀ l ∈ L, Rises l) (hlw : lim ≤ w.heap.size) :
    Calls Tryd.prog 14 #[.pointer (some ⟨bm, 0, none⟩)] w fun e w' => NextOut base lim bm A L w e w' := by
  obtain ⟨n, cap, rs, hh, hd, hne, hrep, hlim⟩ := h
  have hlen := hh.own.1
  have hhead := hh.head
  have hbm := lt_of_cell hhead
  cases rs with
  | nil =>
    have hlen' : n = 0 := by simpa using hlen
    subst hlen'
    have hfin : Hid (∀ l ∈ L, l = []) := fun l hl => by
      cases l with
      | nil => rfl
      | cons d ys =>
        obtain ⟨i, hi⟩ := List.getElem?_of_mem hl
        obtain ⟨r, hr, _⟩ := hrep.all i _ hi (by simp); cases hr
    have HM : Hid (MAt base lim bm A L w) := ⟨0, cap, [], hh, hd, hne, hrep, hlim⟩
    clear hh hd hne hrep hlim hlen
    have hfw : ∀ x, (w.alloc x).cell? ⟨bm, 0, none⟩ = some (.slice A 0 cap) := fun x => below_cell ((Below.refl _ _).alloc (Nat.le_refl _) x) (Nat.le_refl _) hhead
    go_enter Tryd.func14, Tryd.ntmps14
    go_wp2
    refine bodyPost_ret (by simp [results, Tryd.results14, go_sem]; try rfl) rfl ?_
    have hb := (Below.refl w.heap.size w).alloc (Nat.le_refl _) (.cells Cell.zero.cells 35)
    exact ⟨hb.only _, .inl ⟨hfin.out, rfl, HM.out.later hb⟩⟩
  | cons x rest =>
    have hlen' : n = rest.length + 1 := by simpa using hlen
    subst hlen'
    have hx := hne x (by simp)
    obtain ⟨r, g, h1, rfl, _, hgw, c0, c1, ok1⟩ := hh.get 0 (by omega)
    obtain rfl : x = r := by simpa using h1
    obtain ⟨n1, a8⟩ := ok1.first hx
    obtain ⟨t, ht, hbest, hLt⟩ := hrep.best hlen hd hx
    have hfew := hh.few
    have hsm := ok1.small
    simp only [Nat.zero_mul, Nat.zero_add] at c0 c1
    have hlen1 : (0 : Int) < (rest.length : Int) + 1 := by omega
    have hn1 : (0 : Int) < (x.n : Int) := by omega
    have HH := Lib.hid hh
    have HD := Lib.hid hd
    have HN := Lib.hid hne
    have HR := Lib.hid hrep
    have HL := Lib.hid hlim
    have HB := Lib.hid hbest
    have HT := Lib.hid ht
    have HLt := Lib.hid hLt
    have H8 := Lib.hid a8
    have hb0 := (Below.refl w.heap.size w).alloc (Nat.le_refl _) (.cells Cell.zero.cells 35)
    have hhead' := below_cell hb0 (Nat.le_refl _) hhead
    have c0' := below_cell hb0 (Nat.le_refl _) c0
    have c1' := below_cell hb0 (Nat.le_refl _) c1
    obtain ⟨k0, k1, k2, k3, k4, k5, k6, k7⟩ := (a8.below hb0).get
    clear hh hd hne hrep hlim hlen h1 ok1 a8 c0 c1 hhead hbest ht hLt hx
    go_enter Tryd.func14, Tryd.ntmps14
    go_wp2
    generalize hW0 : w.alloc _ = W0 at *
    have s1 : bm < W0.heap.size := lt_of_cell hhead'
    have s2 : g < W0.heap.size := lt_of_cell c0'
    have s3 : x.b < W0.heap.size := lt_of_cell k0
    have Hret : At8 W0 w.heap.size 0 Cell.zero := fun j v hv => by
      rw [← hW0, World.cell?_alloc_new, Nat.zero_add]; simpa [Cell.l] using hv
    have Hfz : ∀ j, W0.frozen? ⟨w.heap.size, j, none⟩ = false := fun j => by
      rw [← hW0]; unfold World.frozen?; rw [heap_alloc_new]; simp
    have HHr := Lib.hid Hret
    have HHf := Lib.hid Hfz
    have Hsz : Hid (W0.heap.size = w.heap.size + 1) := by unfold Hid; rw [← hW0]; simp
    clear Hret Hfz hW0
    go_region
    go_wp2
    obtain ⟨hb1, hc8, hr8, hfz⟩ : Below w.heap.size w (W0.alloc (.cells x.hd.cells 35)).drew ∧ At8 (W0.alloc (.cells x.hd.cells 35)).drew W0.heap.size 0 x.hd ∧ At8 (W0.alloc (.cells x.hd.cells 35)).drew w.heap.size 0 Cell.zero ∧ Hid (∀ j, (W0.alloc (.cells x.hd.cells 35)).drew.frozen? ⟨w.heap.size, j, none⟩ = false) :=
      ⟨(hb0.alloc hb0.size _).drew, fun j v hv => by rw [World.cell?_drew, World.cell?_alloc_new, Nat.zero_add]; simpa [Cell.l] using hv, (HHr.out.below ((Below.refl _ _).alloc (Nat.le_refl _) _)).below (below_drew1 _), fun j => (World.frozen?_alloc_old _ _ _ (by have := Hsz.out; simp only; omega)).trans (HHf.out j)⟩
    have hm0 : MAt base lim bm (some ⟨g, 0, none⟩) L (W0.alloc (.cells x.hd.cells 35)).drew := ⟨_, _, _, HH.out.later hb1, HD.out, HN.out, HR.out, HL.out⟩
    have e0 : Hid (¬ Mine bm (some ⟨g, 0, none⟩) w.heap.size) := fun e => by
      rcases e with e | e
      · omega
      · injection e with e; injection e with e; omega
    have e1 : Hid (¬ Mine bm (some ⟨g, 0, none⟩) W0.heap.size) := fun e => by
      have := Hsz.out
      rcases e with e | e
      · omega
      · injection e with e; injection e with e; omega
    have e2 : Hid (∀ i, i < lim → ¬ i = w.heap.size) := fun i hi e => by omega
    have e4 : ¬ w.heap.size = W0.heap.size := by have := Hsz.out; omega
    have ho1 := hb1.only (Mine bm (some ⟨g, 0, none⟩))
    have hbest := HB.out
    have hleast := Lib.hid (hbest.least hs)
    have hg0 : Hid (¬ g = w.heap.size) := by unfold Hid; omega
    have hbm0 : Hid (¬ bm = w.heap.size) := by unfold Hid; omega
    have HTb := HT.out
    rw [HTb]
    clear hhead' c0' c1' k0 k1 k2 k3 k4 k5 k6 k7 s1 s2 s3 HHr HHf hb0 hb1 HTb
    generalize (W0.alloc _).drew = W2 at *
    generalize W0.heap.size = b1 at *
    obtain ⟨c, hc⟩ : ∃ c, c = x.hd := ⟨_, rfl⟩
    rw [← hc] at hc8 hbest hleast
    have HC := Lib.hid hc
    clear hc hbest
    obtain ⟨b0, hb0⟩ : ∃ b0, b0 = w.heap.size := ⟨_, rfl⟩
    rw [← hb0] at hr8 hfz e0 e2 e4 hg0 hbm0 ⊢
    clear Hsz W0
    have E3 : Hid (w.heap.size ≤ b0) := by unfold Hid; omega
    clear hb0 hlw hgw hbm
    go_loopw [] (fun wr => ∃ L1 : List (List Cell), MAt base lim bm (some ⟨g, 0, none⟩) L1 wr ∧ At8 wr b1 0 c ∧ At8 wr b0 0 Cell.zero ∧ Hid (∀ j, wr.frozen? ⟨b0, j, none⟩ = false) ∧ Only (Mine bm (some ⟨g, 0, none⟩)) w wr ∧ Hid (nextD c L1 = nextD c L) ∧ Hid (∀ l ∈ L1, ∀ y ∈ l, c.order y ≤ 0)) (fun wr => muW bm wr)
    case atStart => exact ⟨L, hm0, hc8, hr8, hfz, ho1, rfl, hleast.out⟩
    case round =>
      clear hm0 hc8 hr8 hfz ho1 hleast hs
      clear HH HD HN HR HL HLt H8 n1 hfew hsm hlen1 hn1
      obtain ⟨L1, ⟨n, cap', rs, hh, hd, hne, hrep, hlim⟩, hc8, hr8, hfz, honly, hnx, hleast⟩ := hrel
      have hhead := hh.head
      have hlen := hh.own.1
      cases rs with
      | nil =>
        have hlen' : n = 0 := by simpa using hlen
        subst hlen'
        have hfin : Hid (L1 = nextD c L) := by
          rw [← hnx.out]
          exact (none_dropWhile _ (fun i d ys hi => by obtain ⟨r, hr, _⟩ := hrep.all i _ hi (by simp); cases hr)).symm
        have HM : Hid (MAt base lim bm (some ⟨g, 0, none⟩) L1 wr) := ⟨0, cap', [], hh, hd, hne, hrep, hlim⟩
        clear hh hd hne hrep hlim hlen
        have hdec : decide ((0 : Int) < 0) = false := by simp
        obtain ⟨l0, l1, l2, l3, l4, l5, l6, l7⟩ := hc8.get
        obtain ⟨m0, m1, m2, m3, m4, m5, m6, m7⟩ := hr8.get
        simp only [Nat.zero_add] at l1 l2 l3 l4 l5 l6 l7 m1 m2 m3 m4 m5 m6 m7
        have hfz' := hfz.out
        go_wp2
        go_quiet (fail)
        go_wp2
        refine bodyPost_ret (by simp [results, Tryd.results14, go_sem, m0, m1, m2, m3, m4, m5, m6, m7]; try rfl) rfl ?_
        have hb := below_drewN wr nq
        have hset := only_set8 (wr.drewN nq) b0 c
        have hm2 := (HM.out.later hb).only hset (fun e => hbm0.out e) (fun q hq e => by injection hq with hq; injection hq with hq; exact hg0.out (hq.trans e)) (fun i hi e => e2.out i hi e)
        refine ⟨(honly.trans (hb.only _)).trans' hset (fun i hi => .inr (by rw [hi]; exact E3.out)), .inr ⟨t, c, ?_, rfl, ?_⟩⟩
        · rw [HC.out]; exact HB.out
        · rw [← hfin.out]; exact hm2
      | cons y ys =>
        have hlen' : n = ys.length + 1 := by simpa using hlen
        subst hlen'
        have hx := hne y (by simp)
        obtain ⟨r, g', h1, hg', _, _, c0, c1, ok1⟩ := hh.get 0 (by omega)
        injection hg' with hg'
        injection hg' with hg' _ _
        subst hg'
        obtain rfl : y = r := by simpa using h1
        obtain ⟨n1, a8⟩ := ok1.first hx
        obtain ⟨t', ht, hbest, hLt⟩ := hrep.best hlen hd hx
        have hfew := hh.few
        have hsm := ok1.small
        simp only [Nat.zero_mul, Nat.zero_add] at c0 c1
        have hC0 := later_cell c0
        have hHd := later_cell hhead
        obtain ⟨k0, k1, k2, k3, k4, k5, k6, k7⟩ := a8.later
        obtain ⟨l0, l1, l2, l3, l4, l5, l6, l7⟩ := hc8.later
        have hlen1 : (0 : Int) < (ys.length : Int) + 1 := by omega
        have hn1 : (0 : Int) < (y.n : Int) := by omega
        obtain ⟨o, ho⟩ : ∃ o, o = y.hd.order c := ⟨_, rfl⟩
        have Hord : Hid (∀ X, Calls Tryd.prog 33 #[y.hd.v, c.v] (wr.later X) fun e w'' => e = .returned (.int .i64 o) ∧ ∃ Y, w'' = wr.later Y) := fun X => by rw [ho]; exact calls_later (order_calls y.hd c _)
        have HO := Lib.hid ho
        have HH := Lib.hid hh
        have HD := Lib.hid hd
        have HN := Lib.hid hne
        have HR := Lib.hid hrep
        have HL := Lib.hid hlim
        have HB' := Lib.hid hbest
        have HT' := Lib.hid ht
        have HLt := Lib.hid hLt
        clear hh hd hne hrep hlim hlen h1 ok1 a8 c0 c1 hhead ho hbest ht hLt hx
        go_wp2
        refine wp_region_later (by kernel_rfl) (by kernel_rfl) ?_
        repeat (go_big_quiet_step ((go_at_call 33; exact Hord.out _)))
        refine wpQuiet_nil ?_
        intro W1 hW1
        have hB1 : Below wr.heap.size wr W1 := by
          obtain ⟨X, rfl⟩ := hW1
          exact later_below wr X
        clear hW1 hC0 hHd k0 k1 k2 k3 k4 k5 k6 k7 l0 l1 l2 l3 l4 l5 l6 l7 Hord
        have hh1 := HH.out.later hB1
        have hc1 := hc8.below hB1
        have hr1 := hr8.below hB1
        have hfz1 : Hid (∀ j, W1.frozen? ⟨b0, j, none⟩ = false) := fun j => (only_frozen (p := ⟨b0, j, none⟩) (hB1.only (fun _ => False)) (show b0 < wr.heap.size from lt_of_cell (hr8 0 _ rfl)) (fun e => e)).trans (hfz.out j)
        have ho1 := honly.trans (hB1.only _)
        have hmu : Hid (muW bm W1 = muW bm wr) := by
          unfold Hid
          rw [muW_of hh1, muW_of HH.out]
        clear hc8 honly hr8
        by_cases hlt : o = 0
        · have hp := pass_calls base bm _ _ cap' y ys W1 hh1 HD.out HN.out
          have Hp := Lib.hid hp
          clear hp
          go_wp2_with (go_at_call 34; refine (Hp.out).mono ?_; clear Hp; rintro e w2 ⟨rfl, hp⟩; have hp := Lib.hid hp)
          obtain ⟨n', cap', rs', p1, p2, p3, p4, p5⟩ := hp.out
          go_roundw
          case rel =>
            refine ⟨L1.set t' y.xs.tail, hp.out.at_ HR.out HL.out HT'.out, hc1.only p5 e1.out, hr1.only p5 e0.out, fun j => (only_frozen (p := ⟨b0, j, none⟩) p5 (show b0 < W1.heap.size from lt_of_cell (hr1 0 _ rfl)) e0.out).trans (hfz1.out j), ho1.trans p5, ?_, fun l hl z hz => ?_⟩
            · unfold Hid
              rw [← hnx.out]
              exact set_dropWhile _ HLt.out (decide_eq_true (by rw [← HO.out]; exact hlt))
            · rcases List.mem_or_eq_of_mem_set hl with hl | rfl
              · exact hleast.out l hl z hz
              · exact hleast.out _ (List.mem_of_getElem? HLt.out) z (List.mem_cons_of_mem _ hz)
          case measure =>
            have h3 := hp.out.mu hh1 (HN.out y (by simp))
            rw [hmu.out] at h3
            exact h3
        · obtain ⟨l0, l1, l2, l3, l4, l5, l6, l7⟩ := hc1.get
          obtain ⟨m0, m1, m2, m3, m4, m5, m6, m7⟩ := hr1.get
          have hfz' := hfz1.out
          simp only [Nat.zero_add] at l1 l2 l3 l4 l5 l6 l7 m1 m2 m3 m4 m5 m6 m7
          go_wp2
          refine bodyPost_ret (by simp [results, Tryd.results14, go_sem, m0, m1, m2, m3, m4, m5, m6, m7]; try rfl) rfl ?_
          have hfin : L1 = nextD c L := by
            rw [← hnx.out]
            refine (none_dropWhile _ (fun i d zs hi => ?_)).symm
            have h4 := HB'.out.2 i d zs hi
            have h5 := HO.out
            have h6 := hleast.out _ (List.mem_of_getElem? HLt.out) y.hd (by simp)
            have h7 := order_is.anti c y.hd
            apply decide_eq_false
            intro h8
            have h9 := order_is.le_lt (a := c) (b := c) (c := c)
            have h10 : c.order d < 0 := order_is.lt_le (a := c) (b := y.hd) (c := d) (by omega) (by omega)
            have := order_is.anti c d
            omega
          have hM : MAt base lim bm (some ⟨g, 0, none⟩) L1 W1 := ⟨_, _, _, hh1, HD.out, HN.out, HR.out, HL.out⟩
          have hset := only_set8 W1 b0 c
          have hm2 := hM.only hset (fun e => hbm0.out e) (fun q hq e => by injection hq with hq; injection hq with hq; exact hg0.out (hq.trans e)) (fun i hi e => e2.out i hi e)
          refine ⟨ho1.trans' hset (fun i hi => .inr (by rw [hi]; exact E3.out)), .inr ⟨t, c, ?_, rfl, ?_⟩⟩
          · rw [HC.out]; exact HB.out
          · rw [← hfin]; exact hm2
end Go.Proofs.YtmabmnkdigdaiaaDoor
