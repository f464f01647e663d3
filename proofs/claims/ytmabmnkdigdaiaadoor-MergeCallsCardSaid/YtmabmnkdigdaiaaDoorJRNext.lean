/-
  joistref10's Next: all runs are looked at.
-/
import Derived.Test.YtmabmnkdigdaiaaDoorJRNew
namespace Go.Proofs.YtmabmnkdigdaiaaDoor
open Go.RowKit

theorem RowsAt.get {base bm n cap : Nat} {A : Option Addr} {rows : List Row} {w : World} (h : RowsAt base bm A n cap rows w) (i : Nat) (hi : i < n) : ∃ r g, rows[i]? = some r ∧ A = some ⟨g, 0, none⟩ ∧ base ≤ g ∧ g < w.heap.size ∧ w.cell? ⟨g, i, none⟩ = some (.slice r.A r.n r.cap) ∧ Far w bm A r := by
  obtain ⟨q1, q2, q3, q4, q5, q6, q7⟩ := h
  rcases q3.shape with ⟨_, hx⟩ | ⟨g, hA, hg, hg2⟩
  · have := q3.1; rw [hx] at this; simp at this; omega
  · obtain ⟨r, b, off, h1, h2, h3, h4⟩ := (q3.rd Row.l_len).get i hi
    rw [hA] at h2
    injection h2 with h2
    injection h2 with e1 e2 _
    subst e1; subst e2
    have c0 := h4 0 _ rfl
    simp only [Nat.zero_add, Nat.add_zero, Nat.mul_one] at c0
    exact ⟨r, g, h1, hA, hg, hg2, c0, q6 r (List.mem_of_getElem? h1)⟩
theorem Far.first {w : World} {bm : Nat} {A : Option Addr} {r : Row} (h : Far w bm A r) {c : Cell} {t : List Cell} (hx : r.xs = c :: t) : ∃ b off, r.A = some ⟨b, off, none⟩ ∧ 0 < r.n ∧ At8 w b off c ∧ c.small := by
  have hn0 : 0 < r.n := by have := h.rd.len; rw [hx] at this; simp at this; omega
  obtain ⟨c', b, off, k1, k2, k3, k4⟩ := rd8 h.rd 0 hn0
  rw [hx] at k1
  injection k1 with k1
  subst k1
  rw [Nat.zero_mul, Nat.add_zero] at k4
  exact ⟨b, off, k2, hn0, k4, h.ok c (by rw [hx]; simp)⟩

/-- The best of the first runs, if there is one. -/
def BestIs (L : List (List Cell)) (b : Int) : Prop := (b = -1 ∧ ∀ l ∈ L, l = []) ∨ ∃ (t : Nat) (c : Cell), b = t ∧ IsBest L t c
theorem BestIs.nil (L : List (List Cell)) : BestIs (L.take 0) (-1) := .inl ⟨rfl, fun l hl => by simp at hl⟩
theorem take_succ {L : List (List Cell)} {k : Nat} {l : List Cell} (h : L[k]? = some l) : L.take (k + 1) = L.take k ++ [l] := by rw [List.take_add_one, h]; rfl
theorem IsBest.get {L : List (List Cell)} {t : Nat} {c : Cell} (h : IsBest L t c) : ∃ xs, L[t]? = some (c :: xs) := h.1
theorem IsBest.snoc {L : List (List Cell)} {t : Nat} {c : Cell} {l : List Cell} (h : IsBest L t c) (hl : ∀ d ys, l = d :: ys → ¬ d.order c < 0) : IsBest (L ++ [l]) t c := by
  obtain ⟨⟨xs, h1⟩, h2⟩ := h
  have hlt := (List.getElem?_eq_some_iff.1 h1).1
  refine ⟨⟨xs, by rw [List.getElem?_append_left hlt]; exact h1⟩, fun i d ys hi => ?_⟩
  by_cases hi2 : i < L.length
  · rw [List.getElem?_append_left hi2] at hi
    exact h2 i d ys hi
  · have : i = L.length := by
      have := (List.getElem?_eq_some_iff.1 hi).1
      simp at this; omega
    subst this
    simp at hi
    have h3 := hl d ys hi
    have := order_is.anti c d
    omega
theorem BestIs.snoc_nil {L : List (List Cell)} {b : Int} (h : BestIs L b) : BestIs (L ++ [[]]) b := by
  rcases h with ⟨rfl, h⟩ | ⟨t, c, rfl, h⟩
  · exact .inl ⟨rfl, fun l hl => by rcases List.mem_append.1 hl with hl | hl; exact h l hl; simpa using hl⟩
  · exact .inr ⟨t, c, rfl, h.snoc fun d ys e => by cases e⟩
theorem BestIs.first {L : List (List Cell)} {d : Cell} {ys : List Cell} (h : ∀ l ∈ L, l = []) : BestIs (L ++ [d :: ys]) L.length := by
  refine .inr ⟨L.length, d, rfl, ⟨ys, by simp⟩, fun i e zs hi => ?_⟩
  by_cases hi2 : i < L.length
  · rw [List.getElem?_append_left hi2] at hi
    have := h _ (List.mem_of_getElem? hi)
    cases this
  · have : i = L.length := by
      have := (List.getElem?_eq_some_iff.1 hi).1
      simp at this; omega
    subst this
    simp at hi
    right
    exact ⟨by rw [hi.1]; exact order_is.refl e, Nat.le_refl _⟩
theorem IsBest.better {L : List (List Cell)} {t : Nat} {c d : Cell} {ys : List Cell} (h : IsBest L t c) (hlt : d.order c < 0) : BestIs (L ++ [d :: ys]) L.length := by
  refine .inr ⟨L.length, d, rfl, ⟨ys, by simp⟩, fun i e zs hi => ?_⟩
  by_cases hi2 : i < L.length
  · rw [List.getElem?_append_left hi2] at hi
    left
    exact order_is.lt_le hlt (by rcases h.2 i e zs hi with h | h <;> omega)
  · have : i = L.length := by
      have := (List.getElem?_eq_some_iff.1 hi).1
      simp at this; omega
    subst this
    simp at hi
    right
    exact ⟨by rw [hi.1]; exact order_is.refl e, Nat.le_refl _⟩

def tailAt (c : Cell) (l : List Cell) : List Cell := match l with
  | [] => []
  | d :: ys => if d.order c = 0 then ys else d :: ys
def nextT (c : Cell) (L : List (List Cell)) : List (List Cell) := L.map (tailAt c)

def RNextOut (base lim bm : Nat) (A : Option Addr) (L : List (List Cell)) (w : World) (e : Ending) (w' : World) : Prop :=
  Only (fun k => A = some ⟨k, 0, none⟩) w w' ∧ (((∀ l ∈ L, l = []) ∧ e = .returned (.tuple #[Cell.zero.v, .int .i64 0, .bool false]) ∧ RAt base lim bm A L w') ∨
    ∃ (t : Nat) (c : Cell), IsBest L t c ∧ e = .returned (.tuple #[c.v, .int .i64 t, .bool true]) ∧ RAt base lim bm A (nextT c L) w')

theorem blk_of {a b : Nat} (e : (some ⟨a, 0, none⟩ : Option Addr) = some ⟨b, 0, none⟩) : a = b := by
  injection e with e
  injection e
theorem set_same {α : Type} : ∀ {l : List α} {i : Nat} {a : α}, l[i]? = some a → l.set i a = l
  | [], i, a, h => by simp at h
  | x :: l, 0, a, h => by simp at h; simp [h]
  | x :: l, i + 1, a, h => by
    rw [List.set_cons_succ, set_same (by simpa using h)]
/-- One of the runs is another now. -/
theorem RowsAt.put {base bm n cap g i : Nat} {rows : List Row} {r r' : Row} {w : World} (h : RowsAt base bm (some ⟨g, 0, none⟩) n cap rows w) (hi : rows[i]? = some r) (hf : Far w bm (some ⟨g, 0, none⟩) r') :
    RowsAt base bm (some ⟨g, 0, none⟩) n cap (rows.set i r') (w.setCell ⟨g, i, none⟩ (.slice r'.A r'.n r'.cap)) ∧ Only (fun k => (some ⟨g, 0, none⟩ : Option Addr) = some ⟨k, 0, none⟩) w (w.setCell ⟨g, i, none⟩ (.slice r'.A r'.n r'.cap)) := by
  obtain ⟨q1, q2, q3, q4, q5, q6, q7⟩ := h
  have e := own_set Row.l_len q3 i 0 r' r (.slice r'.A r'.n r'.cap) hi (by omega) rfl
  rw [Nat.mul_one, Nat.add_zero] at e
  obtain ⟨e1, e2⟩ := e
  have hbm : ¬ (some ⟨g, 0, none⟩ : Option Addr) = some ⟨bm, 0, none⟩ := fun e => q5 bm e rfl
  refine ⟨⟨e2.cell q1 hbm, (only_frozen e2 (lt_of_cell q1) hbm).trans q2, e1, q4, q5, fun q hq => ?_, q7⟩, e2⟩
  rcases List.mem_or_eq_of_mem_set hq with hq | rfl
  · exact (q6 q hq).only e2 (fun a ha e => ((q6 q hq).at_ a ha).2.2.2 a.block e rfl)
  · exact hf.only e2 (fun a ha e => (hf.at_ a ha).2.2.2 a.block e rfl)
theorem Far.tail {w : World} {bm b off n cap : Nat} {A : Option Addr} {c : Cell} {t : List Cell} (h : Far w bm A ⟨some ⟨b, off, none⟩, n, cap, c :: t⟩) (off' : Nat) (ho : n - 1 = 0 ∨ off' = off + 8) : Far w bm A ⟨some ⟨b, off', none⟩, n - 1, cap - 1, t⟩ := by
  have hn : n = t.length + 1 := by have := h.rd.len; simpa using this
  refine ⟨?_, fun a ha => ?_, ?_, ?_, fun d hd => h.ok d (by simp [hd])⟩
  · rcases ho with ho | rfl
    · have htl : t.length = 0 := by rw [hn] at ho; simpa using ho
      have : t = [] := List.eq_nil_of_length_eq_zero htl
      subst this
      show RdC w _ (n - 1) []
      rw [ho]; exact Rd.nil _ _ _ _
    · have := rdc_tail h.rd (show 1 ≤ n by omega)
      exact this
  · injection ha with ha
    subst ha
    have := h.at_ ⟨b, off, none⟩ rfl
    exact ⟨rfl, this.2⟩
  · have := h.room; simp only at this ⊢; omega
  · have := h.small; simp only at this ⊢; omega

/-- Memory that lies apart has turned. -/
theorem RowsAt.apart {base bm n cap : Nat} {A : Option Addr} {rows : List Row} {w w' : World} {S : Nat → Prop} (h : RowsAt base bm A n cap rows w) (ho : Only S w w') (hbm : ¬ S bm) (hA : ∀ g, A = some ⟨g, 0, none⟩ → ¬ S g) (hS : ∀ i, i < w.heap.size → (∃ r ∈ rows, ∃ a, r.A = some a ∧ a.block = i) → ¬ S i) : RowsAt base bm A n cap rows w' := by
  obtain ⟨q1, q2, q3, q4, q5, q6, q7⟩ := h
  exact ⟨ho.cell q1 hbm, (only_frozen ho (lt_of_cell q1) hbm).trans q2, q3.only ho hA, q4, q5, fun r hr => (q6 r hr).only ho (fun a ha => hS a.block ((q6 r hr).at_ a ha).2.1 ⟨r, hr, a, ha, rfl⟩), q7⟩

set_option maxRecDepth 100000 in
set_option maxHeartbeats 8000000 in
theorem rnext_calls (base lim bm : Nat) (A : Option Addr) (L : List (List Cell)) (w : World) (h : RAt base lim bm A L w) (hlw : lim ≤ w.heap.size) :
    Calls Tryd.prog 15 #[.pointer (some ⟨bm, 0, none⟩)] w (RNextOut base lim bm A L w) := by
  obtain ⟨n, cap, rows, hat, hL, hlim⟩ := h
  have hblk0 := Lib.hid hlim
  clear hlim
  have hn7 := hat.2.2.2.2.2.2
  have hlen : Hid (n = rows.length) := hat.2.2.1.1
  have HL := Lib.hid hL
  have hb0 := (Below.refl w.heap.size w).alloc (Nat.le_refl _) (.cells Cell.zero.cells 35)
  have HAT := Lib.hid (hat.below hb0)
  have hret0 : At8 (w.alloc (.cells Cell.zero.cells 35)) w.heap.size 0 Cell.zero := fun j v hv => by
    rw [World.cell?_alloc_new, Nat.zero_add]; simpa [Cell.l] using hv
  have hfz0 : Hid (∀ j, (w.alloc (.cells Cell.zero.cells 35)).frozen? ⟨w.heap.size, j, none⟩ = false) := fun j => by
    unfold World.frozen?; rw [heap_alloc_new]; simp
  have hbm := Lib.hid (lt_of_cell hat.1)
  have hat0 := Lib.hid hat
  have hAw : Hid (∀ g, A = some ⟨g, 0, none⟩ → g < w.heap.size) := fun g hg => by
    rcases hat.2.2.1.shape with ⟨h1, _⟩ | ⟨g', h1, _, h2⟩
    · rw [h1] at hg; cases hg
    · rw [h1] at hg; injection hg with hg; injection hg with hg; omega
  have Hret0 := Lib.hid hret0
  clear hat hL hret0
  go_enter Tryd.func15, Tryd.ntmps15
  go_wp2
  generalize w.alloc (.cells #[.string ⟨#[]⟩, .string ⟨#[]⟩, .string ⟨#[]⟩, .int .i64 0, .int .i64 0, .int .i64 0, .int .i64 0, .string ⟨#[]⟩] 35) = W0 at *
  go_loopg [5, 6] n (fun gk b i wr => ∃ (k : Nat) (x : Int), i = .int .i64 k ∧ b = .int .i64 x ∧ k ≤ n ∧ gk = n - k ∧ Hid (BestIs (L.take k) x) ∧ Below W0.heap.size W0 wr ∧ -1 ≤ x ∧ x < n)
  case atStart => exact ⟨0, -1, rfl, rfl, Nat.zero_le _, rfl, BestIs.nil L, Below.refl _ _, by omega, by omega⟩
  case round =>
    obtain ⟨k, x, rfl, rfl, hk, rfl, hbest, hb, hx1, hx2⟩ := hrel
    have hatr := HAT.out.below hb
    have hhead := hatr.1
    by_cases hlt : k < n
    · obtain ⟨r, g, hr, hA, hg1, hg2, hc, hfar⟩ := hatr.get k hlt
      subst hA
      have hLk : L[k]? = some r.xs := by rw [← HL.out, List.getElem?_map, hr]; rfl
      have htk := Lib.hid (take_succ hLk)
      have hlk : Hid ((L.take k).length = k) := by unfold Hid; rw [List.length_take, ← HL.out, List.length_map]; have := hlen.out; omega
      have hHd := later_cell hhead
      have hC := later_cell hc
      have hk0 : (0 : Int) ≤ (k : Int) := by omega
      have hk1 : (k : Int) < (n : Int) := by omega
      cases hxs : r.xs with
      | nil =>
        have hrn : r.n = 0 := by have := hfar.rd.len; rw [hxs] at this; simpa using this
        have hdec : decide ((0 : Int) < 0) = false := by simp
        rw [hrn] at hC
        have hnew : Hid (BestIs (L.take (k + 1)) x) := by unfold Hid; rw [htk.out, hxs]; exact hbest.out.snoc_nil
        clear hatr hr hfar hc hLk hxs
        go_wp2
        refine wp_region_later (by kernel_rfl) (by kernel_rfl) ?_
        repeat (go_big_quiet_step (fail))
        refine wpQuiet_nil ?_
        intro W1 hW1
        have hB1 : Below wr.heap.size wr W1 := by
          obtain ⟨X, rfl⟩ := hW1
          exact later_below wr X
        have hbW : Below W0.heap.size W0 W1 := hb.trans (hB1.mono hb.size)
        clear hW1 hC hHd 
        go_wp2
        go_roundg (n - (k + 1))
        case measure => omega
        case rel => exact ⟨k + 1, x, by go_num, by go_num, by omega, rfl, hnew.out, hbW, by omega, by omega⟩
      | cons d ys =>
        obtain ⟨b1, o1, hA1, hn0, hd8, hds⟩ := hfar.first hxs
        have hsm := hfar.small
        have HDS := Lib.hid hds
        rw [hA1] at hC
        have hn1 : (0 : Int) < (r.n : Int) := by omega
        have hdec : decide ((0 : Int) < (r.n : Int)) = true := decide_eq_true hn1
        obtain ⟨k0, k1, k2, k3, k4, k5, k6, k7⟩ := hd8.later
        rw [hxs] at htk
        clear hr hfar hc hLk hxs hds hd8
        by_cases hx0 : x < 0
        · have hdx : decide (x < 0) = true := decide_eq_true hx0
          have hnew : Hid (BestIs (L.take (k + 1)) k) := by
            unfold Hid
            rw [htk.out]
            rcases hbest.out with ⟨_, h⟩ | ⟨t, c, h, _⟩
            · have := BestIs.first (d := d) (ys := ys) h
              rwa [hlk.out] at this
            · omega
          clear hatr
          go_wp2
          refine wp_region_later (by kernel_rfl) (by kernel_rfl) ?_
          repeat (go_big_quiet_step (fail))
          refine wpQuiet_nil ?_
          intro W1 hW1
          have hB1 : Below wr.heap.size wr W1 := by
            obtain ⟨X, rfl⟩ := hW1
            exact later_below wr X
          have hbW : Below W0.heap.size W0 W1 := hb.trans (hB1.mono hb.size)
          clear hW1 hC hHd k0 k1 k2 k3 k4 k5 k6 k7
          go_wp2
          go_roundg (n - (k + 1))
          case measure => omega
          case rel => exact ⟨k + 1, k, by go_num, by go_num, by omega, rfl, hnew.out, hbW, by omega, by omega⟩
        · have hdx : decide (x < 0) = false := decide_eq_false hx0
          obtain ⟨t, c, rfl, hB⟩ : ∃ (t : Nat) (c : Cell), x = t ∧ IsBest (L.take k) t c := by
            rcases hbest.out with ⟨h, _⟩ | h
            · omega
            · exact h
          have htlt : t < n := by omega
          obtain ⟨rt, g', hrt, hg', _, _, hct, hfart⟩ := hatr.get t htlt
          injection hg' with hg'
          injection hg' with hg' _ _
          subst hg'
          obtain ⟨xs, hxs⟩ := hB.get
          have hrxs : rt.xs = c :: xs := by
            rw [List.getElem?_take] at hxs
            split at hxs
            · rw [← HL.out, List.getElem?_map, hrt] at hxs
              exact Option.some.inj hxs
            · cases hxs
          obtain ⟨b2, o2, hA2, hnt, hc8, hcs⟩ := hfart.first hrxs
          have HB := Lib.hid hB
          have HCS := Lib.hid hcs
          have hCt := later_cell hct
          rw [hA2] at hCt
          have ht0 : (0 : Int) ≤ (t : Int) := by omega
          have ht1 : (t : Int) < (n : Int) := by omega
          have hnt1 : (0 : Int) < (rt.n : Int) := by omega
          obtain ⟨l0, l1, l2, l3, l4, l5, l6, l7⟩ := hc8.later
          obtain ⟨o, ho⟩ : ∃ o, o = d.order c := ⟨_, rfl⟩
          have Hord : Hid (∀ X, Calls Tryd.prog 27 #[d.v, c.v] (wr.later X) fun e w'' => e = .returned (.int .i64 o) ∧ ∃ Y, w'' = wr.later Y) := fun X => by rw [ho]; exact calls_later (rorder_calls d c _ HDS.out HCS.out)
          clear hatr hrt hfart hct hrxs hxs hB hcs hc8
          by_cases hneg : o < 0
          · have hnew : Hid (BestIs (L.take (k + 1)) k) := by
              unfold Hid
              rw [htk.out]
              have := HB.out.better (d := d) (ys := ys) (by rw [← ho]; exact hneg)
              rwa [hlk.out] at this
            clear ho
            go_wp2
            refine wp_region_later (by kernel_rfl) (by kernel_rfl) ?_
            repeat (go_big_quiet_step ((go_at_call 27; exact Hord.out _)))
            refine wpQuiet_nil ?_
            intro W1 hW1
            have hB1 : Below wr.heap.size wr W1 := by
              obtain ⟨X, rfl⟩ := hW1
              exact later_below wr X
            have hbW : Below W0.heap.size W0 W1 := hb.trans (hB1.mono hb.size)
            clear hW1 hC hHd k0 k1 k2 k3 k4 k5 k6 k7 l0 l1 l2 l3 l4 l5 l6 l7 hCt Hord
            go_wp2
            go_roundg (n - (k + 1))
            case measure => omega
            case rel => exact ⟨k + 1, k, by go_num, by go_num, by omega, rfl, hnew.out, hbW, by omega, by omega⟩
          · have hnew : Hid (BestIs (L.take (k + 1)) t) := by
              unfold Hid
              rw [htk.out]
              exact .inr ⟨t, c, rfl, HB.out.snoc fun d' ys' e => by injection e with e _; rw [← e, ← ho]; exact hneg⟩
            clear ho
            go_wp2
            refine wp_region_later (by kernel_rfl) (by kernel_rfl) ?_
            repeat (go_big_quiet_step ((go_at_call 27; exact Hord.out _)))
            refine wpQuiet_nil ?_
            intro W1 hW1
            have hB1 : Below wr.heap.size wr W1 := by
              obtain ⟨X, rfl⟩ := hW1
              exact later_below wr X
            have hbW : Below W0.heap.size W0 W1 := hb.trans (hB1.mono hb.size)
            clear hW1 hC hHd k0 k1 k2 k3 k4 k5 k6 k7 l0 l1 l2 l3 l4 l5 l6 l7 hCt Hord
            go_wp2
            go_roundg (n - (k + 1))
            case measure => omega
            case rel => exact ⟨k + 1, t, by go_num, by go_num, by omega, rfl, hnew.out, hbW, by omega, by omega⟩
    · obtain rfl : k = n := by omega
      have hbest' : Hid (BestIs L x) := by
        have := hbest.out
        rwa [List.take_of_length_le (by rw [← HL.out, List.length_map]; have := hlen.out; omega)] at this
      have hr8 := Hret0.out.below hb
      have hfz : Hid (∀ j, wr.frozen? ⟨w.heap.size, j, none⟩ = false) := fun j => (only_frozen (p := ⟨w.heap.size, j, none⟩) (hb.only (fun _ => False)) (show w.heap.size < W0.heap.size from lt_of_cell (Hret0.out 0 _ rfl)) (fun e => e)).trans (hfz0.out j)
      have hne1 : Hid (¬ bm = w.heap.size) := by have := hbm.out; unfold Hid; exact Nat.ne_of_lt this
      have hne2 : Hid (∀ g, A = some ⟨g, 0, none⟩ → ¬ g = w.heap.size) := fun g hg e => by have := hAw.out g hg; omega
      have hne3 : Hid (∀ i, i < wr.heap.size → (∃ r ∈ rows, ∃ a, r.A = some a ∧ a.block = i) → ¬ i = w.heap.size) := fun i _ ⟨r, hr, a, ha, hai⟩ e => by
        have := ((hat0.out.2.2.2.2.2.1 r hr).at_ a ha).2.1; omega
      have hbw := hb0.trans (hb.mono hb0.size)
      rcases hbest'.out with ⟨hxe, hall⟩ | ⟨t, c, hxe, hB⟩
      · subst hxe
        have Hall := Lib.hid hall
        have HATR := Lib.hid hatr
        clear hall hatr
        have hfz' := hfz.out
        obtain ⟨m0, m1, m2, m3, m4, m5, m6, m7⟩ := hr8.get
        simp only [Nat.zero_add] at m1 m2 m3 m4 m5 m6 m7
        go_wp2
        refine bodyPost_ret (by simp [results, Tryd.results15, go_sem, m0, m1, m2, m3, m4, m5, m6, m7]; try rfl) rfl ?_
        have hset := only_set8 wr w.heap.size Cell.zero
        refine ⟨(hbw.only _).trans' hset (fun i hi => .inr (Nat.le_of_eq hi.symm)), .inl ⟨Hall.out, rfl, ⟨_, _, _, HATR.out.apart hset hne1.out hne2.out hne3.out, HL.out, hblk0.out⟩⟩⟩
      · subst hxe
        obtain ⟨xs0, hxs0⟩ := hB.get
        obtain ⟨rt, g, hrt, hA, _, hgw, hct, hfart⟩ := hatr.get t (by omega)
        subst hA
        have hrxs : rt.xs = c :: xs0 := by
          rw [← HL.out, List.getElem?_map, hrt] at hxs0
          exact Option.some.inj hxs0
        obtain ⟨b2, o2, hA2, hnt, hc8, hcs⟩ := hfart.first hrxs
        have HCS := Lib.hid hcs
        have HB := Lib.hid hB
        have hnt1 : (0 : Int) < (rt.n : Int) := by omega
        have ht0 : (0 : Int) ≤ (t : Int) := by omega
        rw [hA2] at hct
        obtain ⟨k0, k1, k2, k3, k4, k5, k6, k7⟩ := hc8.get
        have HATR := Lib.hid hatr
        have Hr8 := Lib.hid hr8
        clear hatr hr8 hrt hfart hrxs hxs0 hc8 hcs hB
        go_wp2
        have hbq := (Below.refl wr.heap.size wr).alloc (Nat.le_refl _) (.cells c.cells 35)
        have hat2 := HATR.out.below hbq
        have hc8 : At8 (wr.alloc (.cells c.cells 35)) wr.heap.size 0 c := fun j v hv => by
          rw [World.cell?_alloc_new, Nat.zero_add]; simpa [Cell.l] using hv
        have hr8 := Hr8.out.below hbq
        have hfz2 : Hid (∀ j, (wr.alloc (.cells c.cells 35)).frozen? ⟨w.heap.size, j, none⟩ = false) := fun j => (only_frozen (p := ⟨w.heap.size, j, none⟩) (hbq.only (fun _ => False)) (show w.heap.size < wr.heap.size from lt_of_cell (Hr8.out 0 _ rfl)) (fun e => e)).trans (hfz.out j)
        have hbw2 := hbw.trans (hbq.mono hbw.size)
        have hb10 : Hid (¬ g = wr.heap.size) := by unfold Hid; omega
        have hb00 : Hid (¬ g = w.heap.size) := hne2.out g rfl
        clear hct k0 k1 k2 k3 k4 k5 k6 k7 hhead Hr8 HATR hbq HAT hb hbw Hret0 hfz0 hb0 hbest hbest' hfz
        generalize hW2 : wr.alloc (.cells c.cells 35) = W2 at *
        generalize wr.heap.size = b1 at *
        obtain ⟨b0, hb0⟩ : ∃ b0, b0 = w.heap.size := ⟨_, rfl⟩
        rw [← hb0] at hr8 hfz2 hb00 hne1 ⊢
        have HB0 := Lib.hid hb0
        clear hW2 hb0
        have hL0 : Hid (rows.map Row.xs = (L.take 0).map (tailAt c) ++ L.drop 0) := by unfold Hid; simpa using HL.out
        have hLn : Hid (L.length = k) := by unfold Hid; rw [← HL.out, List.length_map]; exact hlen.out.symm
        go_loopg [8] k (fun gk i wr => ∃ (q : Nat) (rows2 : List Row), i = .int .i64 q ∧ q ≤ k ∧ gk = k - q ∧ RowsAt base bm (some ⟨g, 0, none⟩) k cap rows2 wr ∧ Hid (rows2.map Row.xs = (L.take q).map (tailAt c) ++ L.drop q) ∧ At8 wr b1 0 c ∧ At8 wr b0 0 Cell.zero ∧ Hid (∀ j, wr.frozen? ⟨b0, j, none⟩ = false) ∧ Only (fun k => (some ⟨g, 0, none⟩ : Option Addr) = some ⟨k, 0, none⟩) W2 wr ∧ Hid (∀ r ∈ rows2, ∀ a, r.A = some a → base ≤ a.block ∧ a.block < lim))
        case atStart => exact ⟨0, rows, rfl, Nat.zero_le _, rfl, hat2, hL0.out, hc8, hr8, hfz2.out, Only.refl _ _, hblk0.out⟩
        case round =>
          clear hat2 hc8 hr8 hfz2 hL0
          obtain ⟨q, rows2, rfl, hq, rfl, hatq, hrows, hc8, hr8, hfz, honly, hblk⟩ := hrel
          have HAT2 := Lib.hid hatq
          have hhead := hatq.1
          by_cases hlt2 : q < k
          · obtain ⟨r, g', hr, hg', _, _, hc, hfar⟩ := hatq.get q hlt2
            injection hg' with hg'
            injection hg' with hg' _ _
            subst hg'
            have hLq : L[q]? = some r.xs := by
              have h1 : (rows2.map Row.xs)[q]? = some r.xs := by rw [List.getElem?_map, hr]; rfl
              rw [hrows.out, List.getElem?_append_right (by simp; have := hLn.out; omega)] at h1
              rw [List.getElem?_drop] at h1
              rw [List.length_map, List.length_take, Nat.min_eq_left (by have := hLn.out; omega)] at h1
              rwa [show q + (q - q) = q from by omega] at h1
            have hstep : Hid ((L.take (q + 1)).map (tailAt c) ++ L.drop (q + 1) = (rows2.map Row.xs).set q (tailAt c r.xs)) := by
              unfold Hid
              have hd : L.drop q = r.xs :: L.drop (q + 1) := by
                rw [List.drop_eq_getElem_cons (by have := hLn.out; omega)]
                congr 1
                rw [List.getElem?_eq_getElem (by have := hLn.out; omega)] at hLq
                exact Option.some.inj hLq
              rw [hrows.out, take_succ hLq, hd, List.map_append, List.set_append_right _ _ (by simp; have := hLn.out; omega)]
              rw [List.length_map, List.length_take, Nat.min_eq_left (by have := hLn.out; omega), Nat.sub_self, List.set_cons_zero]
              simp
            have hHd := later_cell hhead
            have hC := later_cell hc
            have hk0 : (0 : Int) ≤ (q : Int) := by omega
            have hk1 : (q : Int) < (k : Int) := by omega
            have Hr := Lib.hid hr
            cases hxs : r.xs with
            | nil =>
              have hrn : r.n = 0 := by have := hfar.rd.len; rw [hxs] at this; simpa using this
              have hdec : decide ((0 : Int) < 0) = false := by simp
              rw [hrn] at hC
              have hnew : Hid (rows2.map Row.xs = (L.take (q + 1)).map (tailAt c) ++ L.drop (q + 1)) := by
                unfold Hid
                rw [hstep.out, hxs]
                refine (set_same ?_).symm
                rw [List.getElem?_map, hr]
                show some r.xs = some (tailAt c [])
                rw [hxs]; rfl
              clear hatq hr hfar hc hLq hxs
              go_wp2
              refine wp_region_later (by kernel_rfl) (by kernel_rfl) ?_
              repeat (go_big_quiet_step (fail))
              refine wpQuiet_nil ?_
              intro W1 hW1
              have hB1 : Below wr.heap.size wr W1 := by
                obtain ⟨X, rfl⟩ := hW1
                exact later_below wr X
              clear hW1 hC hHd 
              have hat1 := HAT2.out.below hB1
              have hc1 := hc8.below hB1
              have hr1 := hr8.below hB1
              have hfz1 : Hid (∀ j, W1.frozen? ⟨b0, j, none⟩ = false) := fun j => (only_frozen (p := ⟨b0, j, none⟩) (hB1.only (fun _ => False)) (show b0 < wr.heap.size from lt_of_cell (hr8 0 _ rfl)) (fun e => e)).trans (hfz.out j)
              have ho1 := honly.trans (hB1.only _)
              clear hc8 hr8 honly hhead
              have HAT1 := Lib.hid hat1
              clear hat1
              go_wp2
              go_roundg (k - (q + 1))
              case measure => omega
              case rel => exact ⟨q + 1, rows2, by go_num, by omega, rfl, HAT1.out, hnew.out, hc1, hr1, hfz1.out, ho1, hblk.out⟩
            | cons d ys =>
              obtain ⟨b3, o3, hA3, hn0, hd8, hds⟩ := hfar.first hxs
              have hsm := hfar.small
              have hroom := hfar.room
              have HDS := Lib.hid hds
              rw [hA3] at hC
              have hn1 : (0 : Int) < (r.n : Int) := by omega
              have hdec : decide ((0 : Int) < (r.n : Int)) = true := decide_eq_true hn1
              obtain ⟨k0, k1, k2, k3, k4, k5, k6, k7⟩ := hd8.later
              obtain ⟨l0, l1, l2, l3, l4, l5, l6, l7⟩ := hc8.later
              obtain ⟨o, ho⟩ : ∃ o, o = d.order c := ⟨_, rfl⟩
              have Hord : Hid (∀ X, Calls Tryd.prog 27 #[d.v, c.v] (wr.later X) fun e w'' => e = .returned (.int .i64 o) ∧ ∃ Y, w'' = wr.later Y) := fun X => by rw [ho]; exact calls_later (rorder_calls d c _ HDS.out HCS.out)
              have hxs := Lib.hid hxs
              have HO := Lib.hid ho
              clear hatq hr hfar hc hLq hds hd8 ho
              by_cases h0 : o = 0
              · have hnew0 : Hid ((rows2.map Row.xs).set q ys = (L.take (q + 1)).map (tailAt c) ++ L.drop (q + 1)) := by
                  unfold Hid
                  rw [hstep.out, hxs.out]
                  simp only [tailAt, ← HO.out, h0, if_true]
                by_cases hcap : r.cap = 1
                · have hrn : r.n = 1 := by omega
                  have hnew : Hid ((rows2.set q ⟨some ⟨b3, o3, none⟩, 0, 0, ys⟩).map Row.xs = (L.take (q + 1)).map (tailAt c) ++ L.drop (q + 1)) := by
                    unfold Hid; rw [List.map_set]; exact hnew0.out
                  go_wp2
                  refine wp_region_later (by kernel_rfl) (by kernel_rfl) ?_
                  repeat (go_big_quiet_step ((go_at_call 27; exact Hord.out _)))
                  refine wpQuiet_nil ?_
                  intro W1 hW1
                  have hB1 : Below wr.heap.size wr W1 := by
                    obtain ⟨X, rfl⟩ := hW1
                    exact later_below wr X
                  clear hW1 hC hHd k0 k1 k2 k3 k4 k5 k6 k7 l0 l1 l2 l3 l4 l5 l6 l7 Hord
                  have hat1 := HAT2.out.below hB1
                  have hc1 := hc8.below hB1
                  have hr1 := hr8.below hB1
                  have hfz1 : Hid (∀ j, W1.frozen? ⟨b0, j, none⟩ = false) := fun j => (only_frozen (p := ⟨b0, j, none⟩) (hB1.only (fun _ => False)) (show b0 < wr.heap.size from lt_of_cell (hr8 0 _ rfl)) (fun e => e)).trans (hfz.out j)
                  have ho1 := honly.trans (hB1.only _)
                  clear hc8 hr8 honly hhead
                  have hf1 := hat1.get q (by omega)
                  obtain ⟨r1, g1, e1, e2, _, _, e3, hfar1⟩ := hf1
                  injection e2 with e2
                  injection e2 with e2 _ _
                  subst e2
                  have er : r1 = r := Option.some.inj (e1.symm.trans Hr.out)
                  subst er
                  have hft : Far W1 bm (some ⟨g, 0, none⟩) ⟨some ⟨b3, o3, none⟩, 0, 0, ys⟩ := by
                    have h1 : r1 = ⟨some ⟨b3, o3, none⟩, r1.n, r1.cap, d :: ys⟩ := by rw [← hA3, ← hxs.out]
                    rw [h1] at hfar1
                    have h2 := hfar1.tail o3 (.inl (by omega))
                    rwa [show r1.n - 1 = 0 by omega, show r1.cap - 1 = 0 by omega] at h2
                  have hput := Lib.hid (hat1.put Hr.out hft)
                  have hhead1 := hat1.1
                  have hfree1 : ∀ j, W1.frozen? ⟨g, j, none⟩ = false := hat1.2.2.1.2.frozenAt
                  have hgm : g ≠ bm := hat1.2.2.2.2.1 g rfl
                  rw [hA3] at e3
                  have HAT1 := Lib.hid hat1
                  clear hat1 hft hfar1
                  go_wp2
                  go_region
                  go_wp2
                  go_roundg (k - (q + 1))
                  case measure => omega
                  case rel =>
                    obtain ⟨hp1, hp2⟩ := hput.out
                    refine ⟨q + 1, _, by go_num, by omega, rfl, hp1.below (below_drew1 _), hnew.out, (hc1.only hp2 (fun e => hb10.out (blk_of e))).below (below_drew1 _), (hr1.only hp2 (fun e => hb00.out (blk_of e))).below (below_drew1 _), fun j => ?_, (ho1.trans hp2).trans ((below_drew1 _).only _), fun r' hr' a ha => ?_⟩
                    · have h9 := only_frozen (p := ⟨b0, j, none⟩) hp2 (show b0 < W1.heap.size from lt_of_cell (hr1 0 _ rfl)) (fun e => hb00.out (blk_of e))
                      exact h9.trans (hfz1.out j)
                    · rcases List.mem_or_eq_of_mem_set hr' with hr' | rfl
                      · exact hblk.out r' hr' a ha
                      · injection ha with ha
                        rw [← ha]
                        exact hblk.out r1 (List.mem_of_getElem? e1) ⟨b3, o3, none⟩ hA3
                · have hnew : Hid ((rows2.set q ⟨some ⟨b3, o3 + 8, none⟩, r.n - 1, r.cap - 1, ys⟩).map Row.xs = (L.take (q + 1)).map (tailAt c) ++ L.drop (q + 1)) := by
                    unfold Hid; rw [List.map_set]; exact hnew0.out
                  go_wp2
                  refine wp_region_later (by kernel_rfl) (by kernel_rfl) ?_
                  repeat (go_big_quiet_step ((go_at_call 27; exact Hord.out _)))
                  refine wpQuiet_nil ?_
                  intro W1 hW1
                  have hB1 : Below wr.heap.size wr W1 := by
                    obtain ⟨X, rfl⟩ := hW1
                    exact later_below wr X
                  clear hW1 hC hHd k0 k1 k2 k3 k4 k5 k6 k7 l0 l1 l2 l3 l4 l5 l6 l7 Hord
                  have hat1 := HAT2.out.below hB1
                  have hc1 := hc8.below hB1
                  have hr1 := hr8.below hB1
                  have hfz1 : Hid (∀ j, W1.frozen? ⟨b0, j, none⟩ = false) := fun j => (only_frozen (p := ⟨b0, j, none⟩) (hB1.only (fun _ => False)) (show b0 < wr.heap.size from lt_of_cell (hr8 0 _ rfl)) (fun e => e)).trans (hfz.out j)
                  have ho1 := honly.trans (hB1.only _)
                  clear hc8 hr8 honly hhead
                  have hf1 := hat1.get q (by omega)
                  obtain ⟨r1, g1, e1, e2, _, _, e3, hfar1⟩ := hf1
                  injection e2 with e2
                  injection e2 with e2 _ _
                  subst e2
                  have er : r1 = r := Option.some.inj (e1.symm.trans Hr.out)
                  subst er
                  have hft : Far W1 bm (some ⟨g, 0, none⟩) ⟨some ⟨b3, (o3 + 8), none⟩, r1.n - 1, r1.cap - 1, ys⟩ := by
                    have h1 : r1 = ⟨some ⟨b3, o3, none⟩, r1.n, r1.cap, d :: ys⟩ := by rw [← hA3, ← hxs.out]
                    rw [h1] at hfar1
                    exact hfar1.tail (o3 + 8) (.inr rfl)
                  have hput := Lib.hid (hat1.put Hr.out hft)
                  have hhead1 := hat1.1
                  have hfree1 : ∀ j, W1.frozen? ⟨g, j, none⟩ = false := hat1.2.2.1.2.frozenAt
                  have hgm : g ≠ bm := hat1.2.2.2.2.1 g rfl
                  rw [hA3] at e3
                  have HAT1 := Lib.hid hat1
                  clear hat1 hft hfar1
                  go_wp2
                  go_region
                  go_wp2
                  go_roundg (k - (q + 1))
                  case measure => omega
                  case rel =>
                    obtain ⟨hp1, hp2⟩ := hput.out
                    refine ⟨q + 1, _, by go_num, by omega, rfl, hp1.below (below_drew1 _), hnew.out, (hc1.only hp2 (fun e => hb10.out (blk_of e))).below (below_drew1 _), (hr1.only hp2 (fun e => hb00.out (blk_of e))).below (below_drew1 _), fun j => ?_, (ho1.trans hp2).trans ((below_drew1 _).only _), fun r' hr' a ha => ?_⟩
                    · have h9 := only_frozen (p := ⟨b0, j, none⟩) hp2 (show b0 < W1.heap.size from lt_of_cell (hr1 0 _ rfl)) (fun e => hb00.out (blk_of e))
                      exact h9.trans (hfz1.out j)
                    · rcases List.mem_or_eq_of_mem_set hr' with hr' | rfl
                      · exact hblk.out r' hr' a ha
                      · injection ha with ha
                        rw [← ha]
                        exact hblk.out r1 (List.mem_of_getElem? e1) ⟨b3, o3, none⟩ hA3
              · have hnew : Hid (rows2.map Row.xs = (L.take (q + 1)).map (tailAt c) ++ L.drop (q + 1)) := by
                  unfold Hid
                  rw [hstep.out, hxs.out]
                  simp only [tailAt, ← HO.out, h0, if_false]
                  refine (set_same ?_).symm
                  rw [List.getElem?_map, Hr.out, ← hxs.out]; rfl
                go_wp2
                refine wp_region_later (by kernel_rfl) (by kernel_rfl) ?_
                repeat (go_big_quiet_step ((go_at_call 27; exact Hord.out _)))
                refine wpQuiet_nil ?_
                intro W1 hW1
                have hB1 : Below wr.heap.size wr W1 := by
                  obtain ⟨X, rfl⟩ := hW1
                  exact later_below wr X
                clear hW1 hC hHd k0 k1 k2 k3 k4 k5 k6 k7 l0 l1 l2 l3 l4 l5 l6 l7 Hord
                have hat1 := HAT2.out.below hB1
                have hc1 := hc8.below hB1
                have hr1 := hr8.below hB1
                have hfz1 : Hid (∀ j, W1.frozen? ⟨b0, j, none⟩ = false) := fun j => (only_frozen (p := ⟨b0, j, none⟩) (hB1.only (fun _ => False)) (show b0 < wr.heap.size from lt_of_cell (hr8 0 _ rfl)) (fun e => e)).trans (hfz.out j)
                have ho1 := honly.trans (hB1.only _)
                clear hc8 hr8 honly hhead
                have HAT1 := Lib.hid hat1
                clear hat1
                go_wp2
                go_roundg (k - (q + 1))
                case measure => omega
                case rel => exact ⟨q + 1, rows2, by go_num, by omega, rfl, HAT1.out, hnew.out, hc1, hr1, hfz1.out, ho1, hblk.out⟩
          · obtain rfl : q = k := by omega
            have hfin : Hid (rows2.map Row.xs = nextT c L) := by
              have := hrows.out
              rw [List.take_of_length_le (by have := hLn.out; omega), List.drop_eq_nil_of_le (by have := hLn.out; omega), List.append_nil] at this
              exact this
            have hfz' := hfz.out
            obtain ⟨l0, l1, l2, l3, l4, l5, l6, l7⟩ := hc8.get
            obtain ⟨m0, m1, m2, m3, m4, m5, m6, m7⟩ := hr8.get
            simp only [Nat.zero_add] at l1 l2 l3 l4 l5 l6 l7 m1 m2 m3 m4 m5 m6 m7
            clear hatq
            go_wp2
            refine bodyPost_ret (by simp [results, Tryd.results15, go_sem, m0, m1, m2, m3, m4, m5, m6, m7]; try rfl) rfl ?_
            have hset := only_set8 wr b0 c
            refine ⟨((hbw2.only _).trans honly).trans' hset (fun i hi => .inr (by rw [hi, HB0.out]; exact Nat.le_refl _)), .inr ⟨t, c, HB.out, rfl, ⟨_, _, _, HAT2.out.apart hset hne1.out (fun g' hg' e => hb00.out ((blk_of hg').trans e)) (fun i _ ⟨r, hr, a, ha, hai⟩ e => by have := hblk.out r hr a ha; have := HB0.out; omega), hfin.out, hblk.out⟩⟩⟩
end Go.Proofs.YtmabmnkdigdaiaaDoor
