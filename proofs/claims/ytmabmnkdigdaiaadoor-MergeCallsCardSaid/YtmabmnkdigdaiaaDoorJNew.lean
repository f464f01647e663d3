/-
  merge.New: a merger of runs.
-/
import Derived.Test.YtmabmnkdigdaiaaDoorJBegin
namespace Go.Proofs.YtmabmnkdigdaiaaDoor
open Go.RowKit

/-- A slice of cells among others. -/
structure Row where
  A : Option Addr
  n : Nat
  cap : Nat
  xs : List Cell
def Row.l (r : Row) : List Value := [.slice r.A r.n r.cap]
theorem Row.l_len (r : Row) : r.l.length = 1 := rfl
structure RowOk (w : World) (r : Row) : Prop where
  rd : RdC w r.A r.n r.xs
  at_ : r.A = none ∨ ∃ b off, r.A = some ⟨b, off, none⟩
  nil : r.A = none → r.cap = 0
  room : r.n ≤ r.cap
  small : r.n ≤ 1000000
  fits : ∀ c ∈ r.xs, c.fits
/-- .. wherever it lies. -/
structure RowOk0 (w : World) (r : Row) : Prop where
  rd : RdC w r.A r.n r.xs
  nil : r.A = none → r.cap = 0
  room : r.n ≤ r.cap
  small : r.n ≤ 1000000
  fits : ∀ c ∈ r.xs, c.fits
structure RdRows0 (w : World) (A : Option Addr) (n : Nat) (rows : List Row) : Prop where
  rd : Rd 1 Row.l w A n rows
  ok : ∀ r ∈ rows, RowOk0 w r
theorem RowOk0.below {w w' : World} {r : Row} (h : RowOk0 w r) (hb : Below w.heap.size w w') : RowOk0 w' r := ⟨h.rd.below hb, h.nil, h.room, h.small, h.fits⟩
theorem RdRows0.below {w w' : World} {A : Option Addr} {n : Nat} {rows : List Row} (h : RdRows0 w A n rows) (hb : Below w.heap.size w w') : RdRows0 w' A n rows := ⟨h.rd.below hb, fun r hr => (h.ok r hr).below hb⟩
/-- A slice of slices of cells. -/
structure RdRows (w : World) (A : Option Addr) (n : Nat) (rows : List Row) : Prop where
  rd : Rd 1 Row.l w A n rows
  ok : ∀ r ∈ rows, RowOk w r
theorem RowOk.below {w w' : World} {r : Row} (h : RowOk w r) (hb : Below w.heap.size w w') : RowOk w' r := ⟨h.rd.below hb, h.at_, h.nil, h.room, h.small, h.fits⟩
theorem RdRows.below {w w' : World} {A : Option Addr} {n : Nat} {rows : List Row} (h : RdRows w A n rows) (hb : Below w.heap.size w w') : RdRows w' A n rows := ⟨h.rd.below hb, fun r hr => (h.ok r hr).below hb⟩

theorem infoRun : (Tryd.prog.info? 57).map (fun i => (i.zero, i.size, i.bytes)) = some (some (.agg #[.slice none 0 0, .int .i64 0]), 2, 32) := by kernel_rfl

/-- append(out, r), r just laid into a block of its own. -/
theorem app_run {w : World} {ops : Array Oper} {rest : List Oper} {o : Oper} {a : Act} {Q : Exit → Act → World → Prop} (hgd : o.guard = none) (s x : Operand)
    (ho : o.op = .call { callee := .builtin .append, args := #[s, x], argTypes := #[53, 53] }) (r : Run)
    {base n cap nb : Nat} {A : Option Addr} {xs : List Run} (hs : a.eval s = .slice A n cap) (hown : OwnR w base A n cap xs) (hnb : nb = w.heap.size) (hx : a.eval x = .slice (some ⟨nb, 0, none⟩) 1 1) (hn : n ≤ 1000000) (hbase : base ≤ w.heap.size)
    (h : ∀ g cap' w', OwnR w' base (some ⟨g, 0, none⟩) (n + 1) cap' (xs ++ [r]) → Only (fun k => A = some ⟨k, 0, none⟩) w w' → (A = some ⟨g, 0, none⟩ ∨ w.heap.size < g) → g < w'.heap.size →
      wpList Tryd.prog ops Q rest (a.put o.dst (.slice (some ⟨g, 0, none⟩) (n + 1) cap')) w') : wpList Tryd.prog ops Q (o :: rest) a (w.alloc (.cells #[.slice (some ⟨r.b, r.off, none⟩) r.n r.cap, .int .i64 r.turn] 57)) := by
  obtain ⟨i0, hi, hz0, hz1, hz2⟩ := info_parts infoRun
  subst hnb
  have hb : Below w.heap.size w (w.alloc (.cells #[.slice (some ⟨r.b, r.off, none⟩) r.n r.cap, .int .i64 r.turn] 57)) := (Below.refl _ _).alloc (Nat.le_refl _) _
  refine append_one hgd s x 53 ho i0 _ 32 Tryd.underlying53 hi hz0 hz1 hz2 rfl (by omega) Run.l_len (c := r) hs (hown.below hb) hx (fun j u hj => ?_) (fun u hu => ?_) (by omega) (by unfold maxLen; omega) (Nat.le_trans hbase hb.size) ?_
  · rw [World.cell?_alloc_new]; simpa [Run.l] using hj
  · simp only [Run.l, List.mem_cons, List.not_mem_nil, or_false] at hu
    rcases hu with rfl | rfl <;> rfl
  · intro g cap' w' h1 h2 h3 h4
    refine h g cap' w' h1 ((hb.only _).trans h2) (h3.imp id fun h3 => ?_) h4
    simp at h3; omega

def begL (rows : List Row) : List (List Cell) := rows.map fun r => begC r.xs
def NewOut (L : List (List Cell)) (w : World) (e : Ending) (w' : World) : Prop := ∃ bm A, e = .returned (.pointer (some ⟨bm, 0, none⟩)) ∧ MAt w.heap.size w'.heap.size bm A L w' ∧ Below w.heap.size w w' ∧ bm < w'.heap.size ∧ w.heap.size ≤ bm ∧ ∀ g, A = some ⟨g, 0, none⟩ → w.heap.size ≤ g ∧ g < w'.heap.size

theorem Rep.snoc {rs : List Run} {L : List (List Cell)} (h : Rep rs L) {r : Run} (hr : r.turn = L.length) : Rep (rs ++ [r]) (L ++ [r.xs]) := by
  refine ⟨?_, fun q hq => ?_, fun i xs hi hne => ?_⟩
  · rw [List.map_append, List.nodup_append]
    refine ⟨h.nodup, by simp, fun a ha b hb => ?_⟩
    simp at hb
    subst hb
    obtain ⟨q, hq, rfl⟩ := List.mem_map.1 ha
    obtain ⟨i, h1, h2⟩ := h.mem q hq
    have := (List.getElem?_eq_some_iff.1 h2).1
    rw [h1, hr]; omega
  · rcases List.mem_append.1 hq with hq | hq
    · obtain ⟨i, h1, h2⟩ := h.mem q hq
      exact ⟨i, h1, by rw [List.getElem?_append_left (List.getElem?_eq_some_iff.1 h2).1]; exact h2⟩
    · simp at hq; subst hq
      exact ⟨L.length, hr, by simp⟩
  · by_cases hl : i < L.length
    · rw [List.getElem?_append_left hl] at hi
      obtain ⟨q, h1, h2⟩ := h.all i xs hi hne
      exact ⟨q, by simp [h1], h2⟩
    · have : i = L.length := by
        have := (List.getElem?_eq_some_iff.1 hi).1
        simp at this; omega
      subst this
      simp at hi
      exact ⟨r, by simp, hr, hi⟩
theorem Rep.snoc_nil {rs : List Run} {L : List (List Cell)} (h : Rep rs L) : Rep rs (L ++ [[]]) := by
  refine ⟨h.nodup, fun q hq => ?_, fun i xs hi hne => ?_⟩
  · obtain ⟨i, h1, h2⟩ := h.mem q hq
    exact ⟨i, h1, by rw [List.getElem?_append_left (List.getElem?_eq_some_iff.1 h2).1]; exact h2⟩
  · by_cases hl : i < L.length
    · rw [List.getElem?_append_left hl] at hi
      exact h.all i xs hi hne
    · have : i = L.length := by
        have := (List.getElem?_eq_some_iff.1 hi).1
        simp at this; omega
      subst this
      simp at hi
      exact absurd hi hne

theorem HeapAt.grown {w w3 : World} {base bm m cap g cap' : Nat} {A : Option Addr} {rs : List Run} {r : Run} (h : HeapAt w base bm A m cap rs) (ho : OwnR w3 base (some ⟨g, 0, none⟩) (m + 1) cap' (rs ++ [r])) (h2 : Only (fun k => A = some ⟨k, 0, none⟩) w w3) (h3 : A = some ⟨g, 0, none⟩ ∨ w.heap.size < g)
    (hm : m + 1 ≤ 1000000) (hr : RdC w (some ⟨r.b, r.off, none⟩) r.n r.xs) (hrw : r.b < w.heap.size) (hsm : r.n ≤ 1000000) (hroom : r.n ≤ r.cap) (hfm : r.b ≠ bm) (hfg : ∀ g, A = some ⟨g, 0, none⟩ → r.b ≠ g) (hne : ∀ q ∈ rs, q.xs ≠ []) :
    HeapAt (w3.setCell ⟨bm, 0, none⟩ (.slice (some ⟨g, 0, none⟩) (m + 1) cap')) base bm (some ⟨g, 0, none⟩) (m + 1) cap' (rs ++ [r]) := by
  have hbw := lt_of_cell h.head
  have hbm : ¬ A = some ⟨bm, 0, none⟩ := fun e => h.sep bm e rfl
  have hg : g ≠ bm := by
    rcases h3 with h3 | h3
    · exact h.sep g h3
    · simp only at hbw; omega
  have ho3 := only_setCell w3 ⟨bm, 0, none⟩ (.slice (some ⟨g, 0, none⟩) (m + 1) cap')
  have old : ∀ q, RdC w (some ⟨q.b, q.off, none⟩) q.n q.xs → q.b < w.heap.size → q.n ≤ 1000000 → q.n ≤ q.cap → q.b ≠ bm → (∀ g, A = some ⟨g, 0, none⟩ → q.b ≠ g) → RunOk (w3.setCell ⟨bm, 0, none⟩ (.slice (some ⟨g, 0, none⟩) (m + 1) cap')) bm (some ⟨g, 0, none⟩) q := fun q q1 q2 q3 q4 q5 q6 => by
    refine ⟨(q1.only h2 (fun a ha e => ?_)).only ho3 (fun a ha e => ?_), q3, q4, q5, fun g' hg' => ?_⟩
    · injection ha with ha; subst ha; exact q6 q.b e rfl
    · injection ha with ha; subst ha; exact q5 e
    · injection hg' with hg'; injection hg' with hg'
      subst hg'
      rcases h3 with h3 | h3
      · exact q6 g h3
      · omega
  refine ⟨World.cell?_setCell_same _ _ _ (h2.cell h.head hbm), ?_, ho.only ho3 (fun g' hg' e => ?_), h.below, fun g' hg' => ?_, fun q hq => ?_, hm⟩
  · rw [World.frozen?_setCell]; exact (only_frozen h2 hbw hbm).trans h.free
  · injection hg' with hg'; injection hg' with hg'; exact hg (hg'.trans e)
  · injection hg' with hg'; injection hg' with hg'; rw [← hg']; exact hg
  · rcases List.mem_append.1 hq with hq | hq
    · have k := h.ok q hq
      exact old q k.rd (lt_of_cell ((k.first (hne q hq)).2 0 _ rfl)) k.small k.room k.farm k.farg
    · simp at hq; subst hq
      exact old q hr hrw hsm hroom hfm hfg

set_option maxHeartbeats 8000000 in
theorem new_calls (A0 : Option Addr) (n c0 : Nat) (rows : List Row) (w : World) (hx : RdRows w A0 n rows) (hn : n ≤ 1000) (hT : Lib.Utf8Tabs 1 2 w) :
    Calls Tryd.prog 12 #[.slice A0 n c0] w (NewOut (begL rows) w) := by
  have hlen := Lib.hid hx.rd.len
  have HX := Lib.hid hx
  have HT := Lib.hid hT
  clear hx hT
  go_enter Tryd.func12, Tryd.ntmps12
  go_wp2
  have hb0 := (Below.refl w.heap.size w).alloc (Nat.le_refl _) (.cells #[Value.slice none 0 0] 55)
  have hcell0 : (w.alloc (.cells #[Value.slice none 0 0] 55)).cell? ⟨w.heap.size, 0, none⟩ = some (.slice none 0 0) := by rw [World.cell?_alloc_new]; rfl
  have hfz0 : (w.alloc (.cells #[Value.slice none 0 0] 55)).frozen? ⟨w.heap.size, 0, none⟩ = false := by unfold World.frozen?; rw [heap_alloc_new]; simp
  have hat0 : HeapAt (w.alloc (.cells #[Value.slice none 0 0] 55)) w.heap.size w.heap.size none 0 0 [] := ⟨hcell0, hfz0, Own.nil _ _ _ _ _, Nat.le_refl _, fun g hg => (by cases hg), fun r hr => (by cases hr), by omega⟩
  have hbm0 : Hid (w.heap.size < (w.alloc (.cells #[Value.slice none 0 0] 55)).heap.size) := by unfold Hid; simp
  clear hcell0 hfz0
  generalize w.alloc (.cells #[Value.slice none 0 0] 55) = W0 at *
  obtain ⟨bm, hbm⟩ : ∃ bm, bm = w.heap.size := ⟨_, rfl⟩
  have HBM := Lib.hid hbm
  have hat1 : HeapAt W0 w.heap.size bm none 0 0 [] := by rw [hbm]; exact hat0
  rw [← hbm]
  clear hat0 hbm
  go_loopw [11] (fun i wr => ∃ (k m cap : Nat) (A : Option Addr) (rs : List Run), i = .int .i64 k ∧ k ≤ n ∧ m ≤ k ∧ HeapAt wr w.heap.size bm A m cap rs ∧ Hid (∀ r ∈ rs, r.xs ≠ []) ∧ Hid (Rep rs (begL (rows.take k))) ∧ Below w.heap.size w wr) (fun i _ => n - (intOf i).toNat)
  case atStart => exact ⟨0, 0, 0, none, [], rfl, Nat.zero_le _, Nat.le_refl _, hat1, (fun r hr => by cases hr), ⟨List.nodup_nil, (fun r hr => by cases hr), fun i xs hi => by simp [begL] at hi⟩, hb0⟩
  case round =>
    clear hat1 hb0 hbm0
    obtain ⟨k, m, cap, A, rs, rfl, hk, hmk, hat, hnes, hrep, hb⟩ := hrel
    by_cases hlt : k < n
    · obtain ⟨row, b0, o0, hrow, hA0, hb0, hrc⟩ := HX.out.rd.get k hlt
      subst hA0
      have c0 := below_cell hb (Nat.le_refl _) (hrc 0 _ rfl)
      simp only [Nat.mul_one, Nat.add_zero] at c0
      have hok := (HX.out.ok row (List.mem_of_getElem? hrow)).below hb
      have hbeg := Lib.hid (begin_calls row.A row.n row.cap row.xs wr hok.rd hok.at_ hok.small hok.room hok.fits (tabs_below HT.out hb))
      have hbl : Hid ((begC row.xs).length ≤ 1000000) := by
        have h1 := hok.rd.len
        have h2 := hok.small
        unfold Hid begC
        rw [List.length_take]; omega
      have hst : Hid (begL (rows.take (k + 1)) = begL (rows.take k) ++ [begC row.xs]) := by
        unfold Hid begL
        rw [List.take_add_one, hrow]
        simp
      have hkl : Hid ((begL (rows.take k)).length = k) := by
        have := hlen.out
        unfold Hid begL
        rw [List.length_map, List.length_take]; omega
      clear hrc hrow hok
      by_cases hemp : begC row.xs = []
      · have HE := Lib.hid hemp
        clear hemp
        go_wp2_with (go_at_call 30; refine hbeg.out.mono ?_; rintro e w1 ⟨A', m', cap', rfl, hown, hb1⟩; have hm0 : m' = 0 := (by rw [hown.1, HE.out]; rfl); subst hm0)
        go_roundw
        case rel => exact ⟨k + 1, m, cap, A, rs, by go_num, by omega, by omega, hat.later hb1, hnes.out, by rw [hst.out, HE.out]; exact hrep.out.snoc_nil, hb.trans (hb1.mono hb.size)⟩
        case measure => simp [intOf]; omega
      · have HE := Lib.hid hemp
        clear hemp
        have hbw := hb.size
        go_wp2_with (first
          | (go_at_call 30; refine hbeg.out.mono ?_; clear hbeg; rintro e w1 ⟨A', m', cap', rfl, hown, hb1⟩; obtain ⟨g', rfl, hg1, hg2⟩ : ∃ g', A' = some ⟨g', 0, none⟩ ∧ wr.heap.size ≤ g' ∧ g' < w1.heap.size := (hown.shape.elim (fun h => absurd h.2 HE.out) id); have hm0 : (0 : Int) < (m' : Int) := (by have := hown.1; have := List.length_pos_iff.2 HE.out; omega); have hat1 := hat.later hb1; have hhead := hat1.head; have hfree := hat1.free; have hb1s := hb1.size; have hml : m' ≤ 1000000 := (by have := hown.1; have := hbl.out; omega))
          | (at_builtin; refine app_run rfl (.tmp 25) (.tmp 29) rfl ⟨g', 0, m', cap', begC row.xs, k⟩ rfl hat1.own rfl rfl (by omega) (by omega) ?_; intro g cap3 w3 h1 h2 h3 h4; have hhead3 := h2.cell hhead (fun e => hat1.sep bm e rfl); have hfree3 := (only_frozen h2 (lt_of_cell hhead) (fun e => hat1.sep bm e rfl)).trans hfree))
        go_roundw
        case rel =>
          have hgr := hat1.grown h1 h2 h3 (by omega) (hown.rd Cell.l_len) hg2 hml (own_room hown) (by have := lt_of_cell hat.head; simp only at this ⊢; omega) (fun q hq => by
            rcases hat.own.shape with ⟨e, _⟩ | ⟨q', e, _, e2⟩
            · rw [e] at hq; cases hq
            · rw [e] at hq; injection hq with hq; injection hq with hq; simp only; omega) hnes.out
          refine ⟨k + 1, m + 1, cap3, some ⟨g, 0, none⟩, rs ++ [_], by go_num, by omega, by omega, hgr, fun r hr => ?_, ?_, ?_⟩
          · rcases List.mem_append.1 hr with hr | hr
            · exact hnes.out r hr
            · simp at hr; subst hr; exact HE.out
          · rw [hst.out]
            exact hrep.out.snoc (r := ⟨g', 0, m', cap', begC row.xs, k⟩) (by rw [hkl.out])
          · exact (hb.trans (hb1.mono hb.size)).trans ((h2.below (by omega) (fun i hi => by
              rcases hat1.own.shape with ⟨e, _⟩ | ⟨q', e, e2, _⟩
              · rw [e] at hi; cases hi
              · rw [e] at hi; injection hi with hi; injection hi with hi; omega)).setCell hat1.below _)
        case measure => simp [intOf]; omega
    · obtain rfl : k = n := by omega
      have hinit := Lib.hid (init_calls w.heap.size bm A m cap rs wr hat hnes.out)
      go_wp2_with (go_at_call 31; refine hinit.out.mono ?_; clear hinit; rintro e w2 ⟨rfl, rs2, k1, k2, k3, k4, k5, k6⟩; have k2 := Lib.hid k2; have k3 := Lib.hid k3; have k4 := Lib.hid k4; have k5 := Lib.hid k5)
      go_ret
      have hrp : Rep rs2 (begL rows) := by
        have := hrep.out
        rw [List.take_of_length_le (by have := hlen.out; omega)] at this
        exact this.perm k2.out
      have hsz := lt_of_cell k1.head
      refine ⟨bm, A, rfl, ⟨m, cap, rs2, k1, k4.out, fun r hr => hnes.out r (k2.out.mem_iff.1 hr), hrp, fun r hr => ?_⟩, hb.trans (k6.below hb.size (fun i hi => ?_)), hsz, k1.below, fun g hg => ?_⟩
      · exact lt_of_cell (((k1.ok r hr).first (hnes.out r (k2.out.mem_iff.1 hr))).2 0 _ rfl)
      · rcases hat.own.shape with ⟨e, _⟩ | ⟨q', e, e2, _⟩
        · rw [e] at hi; cases hi
        · rw [e] at hi; injection hi with hi; injection hi with hi; omega
      · rcases k1.own.shape with ⟨e, _⟩ | ⟨q', e, e2, e3⟩
        · rw [e] at hg; cases hg
        · rw [e] at hg; injection hg with hg; injection hg with hg; omega
end Go.Proofs.YtmabmnkdigdaiaaDoor
