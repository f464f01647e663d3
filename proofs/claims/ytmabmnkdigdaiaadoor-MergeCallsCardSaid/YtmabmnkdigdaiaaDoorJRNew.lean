/-
  joistref10.New: what is left of runs, by the document.
-/
import Derived.Test.YtmabmnkdigdaiaaDoorJSplit
import Derived.Test.YtmabmnkdigdaiaaDoorJRRight
import Derived.Deep.RegionLaw
import Derived.Deep.LoopGhost
import Derived.Deep.DeepCutAuto
import Derived.Deep.CutBlock
namespace Go.Proofs.YtmabmnkdigdaiaaDoor
open Go.RowKit

abbrev OwnW := Own 23 1 Row.l
theorem infoRow : (Tryd.prog.info? 23).map (fun i => (i.zero, i.size, i.bytes)) = some (some (.slice none 0 0), 1, 24) := by kernel_rfl

/-- append(out, r), r just laid into a block of its own. -/
theorem app_row {w : World} {ops : Array Oper} {rest : List Oper} {o : Oper} {a : Act} {Q : Exit → Act → World → Prop} (hgd : o.guard = none) (s x : Operand)
    (ho : o.op = .call { callee := .builtin .append, args := #[s, x], argTypes := #[22, 22] }) (r : Row)
    {base n cap nb : Nat} {A : Option Addr} {xs : List Row} (hs : a.eval s = .slice A n cap) (hown : OwnW w base A n cap xs) (hnb : nb = w.heap.size) (hx : a.eval x = .slice (some ⟨nb, 0, none⟩) 1 1) (hn : n ≤ 1000000) (hbase : base ≤ w.heap.size)
    (h : ∀ g cap' w', OwnW w' base (some ⟨g, 0, none⟩) (n + 1) cap' (xs ++ [r]) → Only (fun k => A = some ⟨k, 0, none⟩) w w' → (A = some ⟨g, 0, none⟩ ∨ w.heap.size < g) → g < w'.heap.size →
      wpList Tryd.prog ops Q rest (a.put o.dst (.slice (some ⟨g, 0, none⟩) (n + 1) cap')) w') : wpList Tryd.prog ops Q (o :: rest) a (w.alloc (.cells #[.slice r.A r.n r.cap] 23)) := by
  obtain ⟨i0, hi, hz0, hz1, hz2⟩ := info_parts infoRow
  subst hnb
  have hb : Below w.heap.size w (w.alloc (.cells #[.slice r.A r.n r.cap] 23)) := (Below.refl _ _).alloc (Nat.le_refl _) _
  refine append_one hgd s x 22 ho i0 _ 24 Tryd.underlying22 hi hz0 hz1 hz2 rfl (by omega) Row.l_len (c := r) hs (hown.below hb) hx (fun j u hj => ?_) (fun u hu => ?_) (by omega) (by unfold maxLen; omega) (Nat.le_trans hbase hb.size) ?_
  · rw [World.cell?_alloc_new]; simpa [Row.l] using hj
  · simp only [Row.l, List.mem_cons, List.not_mem_nil, or_false] at hu
    rcases hu with rfl; rfl
  · intro g cap' w' h1 h2 h3 h4
    refine h g cap' w' h1 ((hb.only _).trans h2) (h3.imp id fun h3 => ?_) h4
    simp at h3; omega

/-- .. as a step of a region that draws. -/
theorem step_app_row {w : World} {ops : Array Oper} {o : Oper} {a : Act} {K : Act → World → Prop} {Q : Exit → Act → World → Prop} {E' : Prop} (hgd : o.guard = none) (s x : Operand)
    (ho : o.op = .call { callee := .builtin .append, args := #[s, x], argTypes := #[22, 22] }) (r : Row)
    {base n cap nb : Nat} {A : Option Addr} {xs : List Row} (hs : a.eval s = .slice A n cap) (hown : OwnW w base A n cap xs) (hnb : nb = w.heap.size) (hx : a.eval x = .slice (some ⟨nb, 0, none⟩) 1 1) (hn : n ≤ 1000000) (hbase : base ≤ w.heap.size)
    (h : ∀ g cap' w', OwnW w' base (some ⟨g, 0, none⟩) (n + 1) cap' (xs ++ [r]) → Only (fun k => A = some ⟨k, 0, none⟩) w w' → (A = some ⟨g, 0, none⟩ ∨ w.heap.size < g) → g < w'.heap.size →
      K (a.put o.dst (.slice (some ⟨g, 0, none⟩) (n + 1) cap')) w') : if Region.wanted o (yielded ops a.tmps) = true then Oper.wp Tryd.prog o a (w.alloc (.cells #[.slice r.A r.n r.cap] 23)) K Q else E' := by
  obtain ⟨i0, hi, hz0, hz1, hz2⟩ := info_parts infoRow
  subst hnb
  have hb : Below w.heap.size w (w.alloc (.cells #[.slice r.A r.n r.cap] 23)) := (Below.refl _ _).alloc (Nat.le_refl _) _
  refine step_append_one hgd s x 22 ho i0 _ 24 Tryd.underlying22 hi hz0 hz1 hz2 rfl (by omega) Row.l_len (c := r) hs (hown.below hb) hx (fun j u hj => ?_) (fun u hu => ?_) (by omega) (by unfold maxLen; omega) (Nat.le_trans hbase hb.size) ?_
  · rw [World.cell?_alloc_new]; simpa [Row.l] using hj
  · simp only [Row.l, List.mem_cons, List.not_mem_nil, or_false] at hu
    rcases hu with rfl; rfl
  · intro g cap' w' h1 h2 h3 h4
    refine h g cap' w' h1 ((hb.only _).trans h2) (h3.imp id fun h3 => ?_) h4
    simp at h3; omega

/-- A row of runs: what is left of one lies in none of the row's own blocks. -/
structure Far (w : World) (bm : Nat) (A : Option Addr) (r : Row) : Prop where
  rd : RdC w r.A r.n r.xs
  at_ : ∀ a, r.A = some a → a.spot = none ∧ a.block < w.heap.size ∧ a.block ≠ bm ∧ ∀ g, A = some ⟨g, 0, none⟩ → a.block ≠ g
  room : r.n ≤ r.cap
  small : r.n ≤ 1000000
  ok : ∀ c ∈ r.xs, c.small
def RowsAt (base bm : Nat) (A : Option Addr) (n cap : Nat) (rows : List Row) (w : World) : Prop :=
  w.cell? ⟨bm, 0, none⟩ = some (.slice A n cap) ∧ w.frozen? ⟨bm, 0, none⟩ = false ∧ OwnW w base A n cap rows ∧ base ≤ bm ∧ (∀ g, A = some ⟨g, 0, none⟩ → g ≠ bm) ∧ (∀ r ∈ rows, Far w bm A r) ∧ n ≤ 1000
/-- The reference's merger at block bm. -/
def RAt (base lim bm : Nat) (A : Option Addr) (L : List (List Cell)) (w : World) : Prop := ∃ n cap rows, RowsAt base bm A n cap rows w ∧ rows.map Row.xs = L ∧ ∀ r ∈ rows, ∀ a, r.A = some a → base ≤ a.block ∧ a.block < lim

theorem Far.only {w w' : World} {bm : Nat} {A : Option Addr} {r : Row} {S : Nat → Prop} (h : Far w bm A r) (ho : Only S w w') (hS : ∀ a, r.A = some a → ¬ S a.block) : Far w' bm A r :=
  ⟨h.rd.only ho hS, fun a ha => ⟨(h.at_ a ha).1, Nat.lt_of_lt_of_le (h.at_ a ha).2.1 ho.size, (h.at_ a ha).2.2⟩, h.room, h.small, h.ok⟩
theorem RowsAt.below {base bm n cap : Nat} {A : Option Addr} {rows : List Row} {w w' : World} (h : RowsAt base bm A n cap rows w) (hb : Below w.heap.size w w') : RowsAt base bm A n cap rows w' := by
  obtain ⟨q1, q2, q3, q4, q5, q6, q7⟩ := h
  exact ⟨below_cell hb (Nat.le_refl _) q1, (only_frozen (hb.only (fun _ => False)) (lt_of_cell q1) (fun e => e)).trans q2, q3.below hb, q4, q5, fun r hr => (q6 r hr).only (hb.only (fun _ => False)) (fun _ _ e => e), q7⟩
theorem RowsAt.grown {base bm k cap cap3 g : Nat} {A : Option Addr} {out : List Row} {r : Row} {w3 w5 : World} (hat : RowsAt base bm A k cap out w3) (own5 : OwnW w5 base (some ⟨g, 0, none⟩) (k + 1) cap3 (out ++ [r])) (h2 : Only (fun k => A = some ⟨k, 0, none⟩) w3 w5) (h3 : A = some ⟨g, 0, none⟩ ∨ w3.heap.size < g)
    (hr : Far w3 bm A r) (hk : k + 1 ≤ 1000) : RowsAt base bm (some ⟨g, 0, none⟩) (k + 1) cap3 (out ++ [r]) (w5.setCell ⟨bm, 0, none⟩ (.slice (some ⟨g, 0, none⟩) (k + 1) cap3)) := by
  obtain ⟨q1, q2, q3, q4, q5, q6, q7⟩ := hat
  have hbw := lt_of_cell q1
  have hbm : ¬ A = some ⟨bm, 0, none⟩ := fun e => q5 bm e rfl
  have hg : g ≠ bm := by
    rcases h3 with h3 | h3
    · exact q5 g h3
    · simp only at hbw; omega
  have ho3 := only_setCell w5 ⟨bm, 0, none⟩ (.slice (some ⟨g, 0, none⟩) (k + 1) cap3)
  have old : ∀ q, Far w3 bm A q → Far (w5.setCell ⟨bm, 0, none⟩ (.slice (some ⟨g, 0, none⟩) (k + 1) cap3)) bm (some ⟨g, 0, none⟩) q := fun q hq => by
    have f1 := hq.only h2 (fun a ha e => (hq.at_ a ha).2.2.2 a.block e rfl)
    have f2 := f1.only ho3 (fun a ha e => (hq.at_ a ha).2.2.1 e)
    refine ⟨f2.rd, fun a ha => ⟨(f2.at_ a ha).1, (f2.at_ a ha).2.1, (f2.at_ a ha).2.2.1, fun g' hg' => ?_⟩, f2.room, f2.small, f2.ok⟩
    injection hg' with hg'; injection hg' with hg'
    subst hg'
    rcases h3 with h3 | h3
    · exact (hq.at_ a ha).2.2.2 g h3
    · have := (hq.at_ a ha).2.1; omega
  refine ⟨World.cell?_setCell_same _ _ _ (h2.cell q1 hbm), ?_, own5.only ho3 (fun g' hg' e => ?_), q4, fun g' hg' => ?_, fun q hq => ?_, hk⟩
  · rw [World.frozen?_setCell]; exact (only_frozen h2 hbw hbm).trans q2
  · injection hg' with hg'; injection hg' with hg'; exact hg (hg'.trans e)
  · injection hg' with hg'; injection hg' with hg'; rw [← hg']; exact hg
  · rcases List.mem_append.1 hq with hq | hq
    · exact old q (q6 q hq)
    · simp at hq; subst hq; exact old q hr
/-- What a call made lies far from the row that was there. -/
theorem far_new {base bm k cap : Nat} {A A' : Option Addr} {out : List Row} {m' cap' : Nat} {l : List Cell} {w2 w3 : World} (hat : RowsAt base bm A k cap out w2) (_ : Below w2.heap.size w2 w3) {B : Nat} (hB : w2.heap.size ≤ B) (hown : OwnC w3 B A' m' cap' l) (hl : l.length ≤ 1000000) (hs : ∀ c ∈ l, c.small) : Far w3 bm A ⟨A', m', cap', l⟩ := by
  obtain ⟨q1, q2, q3, q4, q5, q6, q7⟩ := hat
  refine ⟨hown.rd Cell.l_len, fun a ha => ?_, own_room hown, by have := hown.1; simp only; omega, hs⟩
  rcases hown.shape with ⟨h1, _⟩ | ⟨g, h1, h2, h3⟩
  · rw [h1] at ha; cases ha
  · rw [h1] at ha
    injection ha with ha
    subst ha
    refine ⟨rfl, h3, ?_, fun g' hg' => ?_⟩
    · have := lt_of_cell q1; simp only at this ⊢; omega
    · rcases q3.shape with ⟨h4, _⟩ | ⟨g'', h4, _, h5⟩
      · rw [h4] at hg'; cases hg'
      · rw [h4] at hg'; injection hg' with hg'; injection hg' with hg'; simp only; omega

set_option maxRecDepth 100000 in
set_option maxHeartbeats 8000000 in
theorem rnew_calls (A0 : Option Addr) (n c0 : Nat) (rows : List Row) (w : World) (hx : RdRows0 w A0 n rows) (hn : n ≤ 1000) :
    Calls Tryd.prog 13 #[.slice A0 n c0] w fun e w' => ∃ bm A, e = .returned (.pointer (some ⟨bm, 0, none⟩)) ∧ RAt w.heap.size w'.heap.size bm A (begL rows) w' ∧ Below w.heap.size w w' ∧ bm < w'.heap.size ∧ w.heap.size ≤ bm ∧ ∀ g, A = some ⟨g, 0, none⟩ → w.heap.size ≤ g ∧ g < w'.heap.size := by
  obtain ⟨i0, hi, hz0, hz1, hz2⟩ := info_parts infoRow
  have hlen := Lib.hid hx.rd.len
  have HX := Lib.hid hx
  clear hx
  go_enter Tryd.func13, Tryd.ntmps13
  go_wp2
  have hb0 := (Below.refl w.heap.size w).alloc (Nat.le_refl _) (.cells #[Value.slice none 0 0] 61)
  have hat1 : RowsAt w.heap.size w.heap.size none 0 0 [] (w.alloc (.cells #[Value.slice none 0 0] 61)) := ⟨by rw [World.cell?_alloc_new]; rfl, by unfold World.frozen?; rw [heap_alloc_new]; simp, Own.nil _ _ _ _ _, Nat.le_refl _, fun g hg => (by cases hg), fun r hr => (by cases hr), by omega⟩
  generalize hW : w.alloc (.cells #[Value.slice none 0 0] 61) = W0 at *
  clear hW
  obtain ⟨bm, hbm⟩ : ∃ bm, bm = w.heap.size := ⟨_, rfl⟩
  have HBM := Lib.hid hbm
  have hat2 : RowsAt w.heap.size bm none 0 0 [] W0 := by rw [hbm]; exact hat1
  rw [← hbm]
  clear hat1 hbm
  go_loopg [4] n (fun gk i wr => ∃ (k cap : Nat) (A : Option Addr) (out : List Row), i = .int .i64 k ∧ k ≤ n ∧ gk = n - k ∧ RowsAt w.heap.size bm A k cap out wr ∧ Hid (out.map Row.xs = begL (rows.take k)) ∧ Below w.heap.size w wr ∧ Hid (∀ r ∈ out, ∀ a, r.A = some a → w.heap.size ≤ a.block))
  case atStart => exact ⟨0, 0, none, [], rfl, Nat.zero_le _, rfl, hat2, rfl, hb0, fun r hr => (by cases hr)⟩
  case round =>
    clear hat2 hb0
    obtain ⟨k, cap, A, out, rfl, hk, rfl, hat, hout, hb, hge⟩ := hrel
    by_cases hlt : k < n
    · obtain ⟨row, b0, o0, hrow, hA0, hb0, hrc⟩ := HX.out.rd.get k hlt
      subst hA0
      have c0 := below_cell hb (Nat.le_refl _) (hrc 0 _ rfl)
      simp only [Nat.mul_one, Nat.add_zero] at c0
      have hok := Lib.hid ((HX.out.ok row (List.mem_of_getElem? hrow)).below hb)
      have hst : Hid (begL (rows.take (k + 1)) = begL (rows.take k) ++ [begC row.xs]) := by
        unfold Hid begL
        rw [List.take_add_one, hrow]
        simp
      clear hrc hrow
      have HAT := Lib.hid hat
      clear hat
      obtain ⟨W1, hW1⟩ : ∃ W1, W1 = wr := ⟨_, rfl⟩
      subst hW1
      go_upto_block 2 with fail
      go_cut [5] (fun x wx => ∃ j : Nat, x = .int .i64 j ∧ j ≤ row.n ∧ Hid (begC row.xs = row.xs.take j) ∧ Below W1.heap.size W1 wx)
      case first =>
        have hsmall := hok.out.small
        go_wp2
        go_loopg [5] row.n (fun gk i wr => ∃ j : Nat, i = .int .i64 j ∧ j ≤ row.n ∧ gk = row.n - j ∧ Hid (∀ q, q < j → goodAt row.xs q = true) ∧ Below W1.heap.size W1 wr)
        case atStart => exact ⟨0, rfl, Nat.zero_le _, rfl, fun q hq => absurd hq (Nat.not_lt_zero _), Below.refl _ _⟩
        case round =>
          obtain ⟨j, rfl, hj, rfl, hgood, hbr⟩ := hrel
          have d0 := later_cell (below_cell hbr (Nat.le_refl _) c0)
          have hko0 : (0 : Int) ≤ (k : Int) := by omega
          have hko1 : (k : Int) < (n : Int) := by omega
          by_cases hjn : j < row.n
          · obtain ⟨c, b, off, hc, hAe, hbw, hc8⟩ := rd8 hok.out.rd j hjn
            have hcf := Lib.hid (hok.out.fits c (List.mem_of_getElem? hc))
            have HC := Lib.hid hc
            clear hc
            have HOK : Hid (∀ X, Calls Tryd.prog 32 #[c.v] (wr.later X) fun e w'' => e = .returned (.bool c.ok) ∧ ∃ Y, w'' = wr.later Y) := fun X => calls_later (rright_calls c _ hcf.out)
            obtain ⟨k0, k1, k2, k3, k4, k5, k6, k7⟩ := (hc8.below hbr).later
            clear hc8
            rw [hAe] at d0
            cases hcok : c.ok with
            | false =>
              have hdec : decide ((j : Int) < (row.n : Int)) = true := decide_eq_true (by omega)
              have hi0 : (0 : Int) ≤ (j : Int) := by omega
              have hi1 : (j : Int) < (row.n : Int) := by omega
              rw [hcok] at HOK
              have hcok := Lib.hid hcok
              go_wp2
              refine wp_region_later (by kernel_rfl) (by kernel_rfl) ?_
              repeat (go_big_quiet_step ((go_at_call 32; exact HOK.out _)))
              refine wpQuiet_nil ?_
              intro W2 hW2
              have hB1 : Below wr.heap.size wr W2 := by
                obtain ⟨X, rfl⟩ := hW2
                exact later_below wr X
              have hbW : Below W1.heap.size W1 W2 := hbr.trans (hB1.mono hbr.size)
              clear hW2 HOK k0 k1 k2 k3 k4 k5 k6 k7 hB1 hbr d0
              have hfin := begC_eq row.xs (j) (by have := hok.out.rd.len; omega) (goodAt_not HC.out hcok.out) hgood.out
              have HFIN := Lib.hid hfin
              clear hfin
              go_wp2
              go_meet
              exact ⟨j, by go_num, by omega, HFIN.out, hbW⟩
            | true =>
              rw [hcok] at HOK
              have hcok := Lib.hid hcok
              cases j with
              | zero =>
                have hn0 : (0 : Int) < (row.n : Int) := by omega
                have hdec : decide ((0 : Int) < (row.n : Int)) = true := decide_eq_true hn0
                have hgn : Hid (∀ q, q < 1 → goodAt row.xs q = true) := fun q hq => by
                  obtain rfl : q = 0 := by omega
                  exact goodAt_zero HC.out hcok.out
                simp only [Nat.zero_mul, Nat.add_zero] at k0 k1 k2 k3 k4 k5 k6 k7
                go_wp2
                refine wp_region_later (by kernel_rfl) (by kernel_rfl) ?_
                repeat (go_big_quiet_step ((go_at_call 32; exact HOK.out _)))
                refine wpQuiet_nil ?_
                intro W2 hW2
                have hB1 : Below wr.heap.size wr W2 := by
                  obtain ⟨X, rfl⟩ := hW2
                  exact later_below wr X
                have hbW : Below W1.heap.size W1 W2 := hbr.trans (hB1.mono hbr.size)
                clear hW2 HOK k0 k1 k2 k3 k4 k5 k6 k7 hB1 hbr d0
                go_wp2
                go_roundg (row.n - 1)
                case measure => omega
                case rel => exact ⟨1, by go_num, by omega, by omega, hgn.out, hbW⟩
              | succ j =>
                have hdec : decide ((j : Int) + 1 < (row.n : Int)) = true := decide_eq_true (by omega)
                have hi0 : (0 : Int) ≤ (j : Int) + 1 := by omega
                have hi1 : (j : Int) + 1 < (row.n : Int) := by omega
                obtain ⟨d, b', off', hd, hA', _, hd8⟩ := rd8 hok.out.rd j (by omega)
                rw [hAe] at hA'
                injection hA' with hA'
                injection hA' with e1 e2 _
                subst e1; subst e2
                obtain ⟨l0, l1, l2, l3, l4, l5, l6, l7⟩ := (hd8.below hbr).later
                have hdf := Lib.hid (hok.out.fits d (List.mem_of_getElem? hd)).small'
                have hcs := Lib.hid hcf.out.small'
                have HDd := Lib.hid hd
                clear hd hd8
                obtain ⟨o, ho⟩ : ∃ o, o = d.order c := ⟨_, rfl⟩
                have Hord : Hid (∀ X, Calls Tryd.prog 27 #[d.v, c.v] (wr.later X) fun e w'' => e = .returned (.int .i64 o) ∧ ∃ Y, w'' = wr.later Y) := fun X => by rw [ho]; exact calls_later (rorder_calls d c _ hdf.out hcs.out)
                have hw : IntKind.i64.wrap ((j : Int) + 1 - 1) = (j : Int) := by rw [IntWalk.i64_in _ (h := by omega)]; omega
                have hj0 : (0 : Int) ≤ (j : Int) := by omega
                have hj1 : (j : Int) < (row.n : Int) := by omega
                have hj2 : ¬ ((j : Int) + 1 = 0) := by omega
                have hj3 : ((j : Int) + 1 == 0) = false := by simp; omega
                have hgs : Hid (goodAt row.xs (j + 1) = decide (o < 0)) := by rw [ho]; exact goodAt_succ HC.out HDd.out hcok.out
                clear ho
                go_wp2
                refine wp_region_later (by kernel_rfl) (by kernel_rfl) ?_
                repeat (go_big_quiet_step ((first | (go_at_call 27; exact Hord.out _) | (go_at_call 32; exact HOK.out _))))
                refine wpQuiet_nil ?_
                intro W2 hW2
                have hB1 : Below wr.heap.size wr W2 := by
                  obtain ⟨X, rfl⟩ := hW2
                  exact later_below wr X
                have hbW : Below W1.heap.size W1 W2 := hbr.trans (hB1.mono hbr.size)
                clear hW2 HOK k0 k1 k2 k3 k4 k5 k6 k7 l0 l1 l2 l3 l4 l5 l6 l7 Hord hB1 hbr d0
                by_cases hneg : o < 0
                · have hgn : Hid (∀ i, i < j + 1 + 1 → goodAt row.xs i = true) := fun i hi => by
                    rcases (by omega : i < j + 1 ∨ i = j + 1) with h | h
                    · exact hgood.out i h
                    · rw [h, hgs.out]; exact decide_eq_true hneg
                  go_wp2
                  go_roundg (row.n - (j + 1 + 1))
                  case measure => omega
                  case rel => exact ⟨j + 1 + 1, by go_num, by omega, by omega, hgn.out, hbW⟩
                · have hgg : Hid (goodAt row.xs (j + 1) = false) := by rw [hgs.out]; exact decide_eq_false hneg
                  have hfin := begC_eq row.xs (j + 1) (by have := hok.out.rd.len; omega) (hgg.out) hgood.out
                  have HFIN := Lib.hid hfin
                  clear hfin
                  go_wp2
                  go_meet
                  exact ⟨j + 1, by go_num, by omega, HFIN.out, hbW⟩
          · obtain rfl : j = row.n := by omega
            have hdec : decide ((row.n : Int) < (row.n : Int)) = false := decide_eq_false (by omega)
            have d1 := below_cell hbr (Nat.le_refl _) c0
            have hfin : Hid (begC row.xs = row.xs.take row.n) := begC_eq row.xs row.n (by have := hok.out.rd.len; omega) (goodAt_end row.xs _ (by have := hok.out.rd.len; omega)) hgood.out
            go_wp2
            go_quiet (fail)
            have hbq := below_drewN wr nq
            have hbW := hbr.trans (hbq.mono hbr.size)
            generalize wr.drewN nq = W2 at *
            go_wp2
            go_meet
            exact ⟨row.n, by go_num, Nat.le_refl _, hfin.out, hbW⟩
      case rest =>
        obtain ⟨j, rfl, hj, hbeg, hb1⟩ := hcut
        have hbc := hb.trans (hb1.mono hb.size)
        have hsmall := hok.out.small
        have hroom := hok.out.room
        have c1 := below_cell hb1 (Nat.le_refl _) c0
        obtain ⟨q1, q2, q3, q4, q5, q6, q7⟩ := HAT.out
        have hcopy : Hid (∀ W, Below wc.heap.size wc W → Calls Tryd.prog 11 #[.slice row.A j row.cap] W (OutC (begC row.xs) W)) := fun W hW => by
          rw [hbeg.out]
          exact copy_calls row.A j row.cap _ W (rd_take ((hok.out.rd.below hb1).below hW) j hj) hok.out.nil (by omega)
        have hhead := below_cell hb1 (Nat.le_refl _) q1
        have hbmlt := lt_of_cell hhead
        have hfree := (only_frozen (hb1.only (fun _ => False)) (lt_of_cell q1) (fun e => e)).trans q2
        have hown2 := Lib.hid (q3.below hb1)
        have Q5 := Lib.hid q5
        have Q6 := Lib.hid q6
        have Q4 := q4
        have hbl : Hid ((begC row.xs).length ≤ 1000000) := by
          have h1 := hok.out.rd.len
          unfold Hid begC
          rw [List.length_take]; omega
        have hko0 : (0 : Int) ≤ (k : Int) := by omega
        have hko1 : (k : Int) < (n : Int) := by omega
        have hjr : (j : Int) ≤ (row.cap : Int) := by omega
        have hj0 : (0 : Int) ≤ (j : Int) := by omega
        have hk6 := q7
        clear c0 q1 q2 q3 q5 q6 q4 q7
        have hatc' := Lib.hid (HAT.out.below hb1)
        have hsm : Hid (∀ c ∈ begC row.xs, c.small) := fun c hc => (hok.out.fits c (begC_mem _ c hc)).small'
        rcases hA : row.A with _ | ra
        · have hn0 : row.n = 0 := by
            rcases Nat.eq_zero_or_pos row.n with h | h
            · exact h
            · obtain ⟨c, b, off, _, h2, _⟩ := rd8 hok.out.rd 0 h
              rw [hA] at h2; cases h2
          have hc0 := hok.out.nil hA
          obtain rfl : j = 0 := by omega
          rw [hA, hn0, hc0] at c1
          rw [hA, hc0] at hcopy
          go_wp2
          go_region_law (first
            | (refine step_app_row rfl (.tmp 60) (.tmp 68) rfl ⟨A', m', cap', begC row.xs⟩ rfl hown3.out rfl rfl ?_ hsz3 ?_; omega; intro g cap3 w5 h1 h2 h3 h4; have h1 := Lib.hid h1; have hhead5 := h2.cell (below_cell hb4 (Nat.le_refl _) hhead) (fun e => Q5.out bm e rfl); have hfree5 := (only_frozen h2 (lt_of_cell (below_cell hb4 (Nat.le_refl _) hhead)) (fun e => Q5.out bm e rfl)).trans ((only_frozen (hb4.only (fun _ => False)) hbmlt (fun e => e)).trans hfree))
            | (go_simp; go_wp2_with (go_at_call 11; refine (hcopy.out _ ?_).mono ?_; exact below_drew1 _; rintro e w3 ⟨A', m', cap', rfl, hown, hb3⟩; have hown := Lib.hid hown; have hb4 := (below_drew1 wc).trans (hb3.mono (Nat.le_refl _)); have hown3 := Lib.hid (hown2.out.below hb4); have hsz3 : w.heap.size ≤ w3.heap.size := Nat.le_trans hbc.size hb4.size; have hhead4 := below_cell hb4 (Nat.le_refl _) hhead; have hbmlt4 := lt_of_cell hhead4)))
          all_goals go_wp2
          all_goals go_roundg (n - (k + 1))
          all_goals try omega
          all_goals (
            have far := far_new hatc'.out hb4 (B := wc.drew.heap.size) (Nat.le_refl _) hown.out hbl.out hsm.out
            have hsz5 := Nat.le_trans hsz3 h2.size
            refine ⟨k + 1, cap3, some ⟨g, 0, none⟩, out ++ [⟨A', m', cap', begC row.xs⟩], by go_num, by omega, rfl, (hatc'.out.below hb4).grown h1.out h2 h3 far (by omega), ?_, ?_, fun r hr a ha => ?_⟩
            · unfold Hid; rw [List.map_append, hout.out, hst.out]; rfl
            · exact ((hbc.trans (hb4.mono hbc.size)).trans (h2.below hsz3 (fun i hi => by
                rcases hown3.out.shape with ⟨e, _⟩ | ⟨q', e, e2, _⟩
                · rw [e] at hi; cases hi
                · rw [e] at hi; injection hi with hi; injection hi with hi; omega))).setCell Q4 _
            · rcases List.mem_append.1 hr with hr | hr
              · exact hge.out r hr a ha
              · simp at hr; subst hr
                rcases hown.out.shape with ⟨e, _⟩ | ⟨q', e, e2, _⟩
                · rw [e] at ha; cases ha
                · rw [e] at ha; injection ha with ha; subst ha
                  exact Nat.le_trans hbc.size e2)
        · rw [hA] at c1 hcopy
          go_wp2
          go_region_law (first
            | (refine step_app_row rfl (.tmp 60) (.tmp 68) rfl ⟨A', m', cap', begC row.xs⟩ rfl hown3.out rfl rfl ?_ hsz3 ?_; omega; intro g cap3 w5 h1 h2 h3 h4; have h1 := Lib.hid h1; have hhead5 := h2.cell (below_cell hb4 (Nat.le_refl _) hhead) (fun e => Q5.out bm e rfl); have hfree5 := (only_frozen h2 (lt_of_cell (below_cell hb4 (Nat.le_refl _) hhead)) (fun e => Q5.out bm e rfl)).trans ((only_frozen (hb4.only (fun _ => False)) hbmlt (fun e => e)).trans hfree))
            | (go_simp; go_wp2_with (go_at_call 11; refine (hcopy.out _ ?_).mono ?_; exact below_drew1 _; rintro e w3 ⟨A', m', cap', rfl, hown, hb3⟩; have hown := Lib.hid hown; have hb4 := (below_drew1 wc).trans (hb3.mono (Nat.le_refl _)); have hown3 := Lib.hid (hown2.out.below hb4); have hsz3 : w.heap.size ≤ w3.heap.size := Nat.le_trans hbc.size hb4.size; have hhead4 := below_cell hb4 (Nat.le_refl _) hhead; have hbmlt4 := lt_of_cell hhead4)))
          all_goals go_wp2
          all_goals go_roundg (n - (k + 1))
          all_goals try omega
          all_goals (
            have far := far_new hatc'.out hb4 (B := wc.drew.heap.size) (Nat.le_refl _) hown.out hbl.out hsm.out
            have hsz5 := Nat.le_trans hsz3 h2.size
            refine ⟨k + 1, cap3, some ⟨g, 0, none⟩, out ++ [⟨A', m', cap', begC row.xs⟩], by go_num, by omega, rfl, (hatc'.out.below hb4).grown h1.out h2 h3 far (by omega), ?_, ?_, fun r hr a ha => ?_⟩
            · unfold Hid; rw [List.map_append, hout.out, hst.out]; rfl
            · exact ((hbc.trans (hb4.mono hbc.size)).trans (h2.below hsz3 (fun i hi => by
                rcases hown3.out.shape with ⟨e, _⟩ | ⟨q', e, e2, _⟩
                · rw [e] at hi; cases hi
                · rw [e] at hi; injection hi with hi; injection hi with hi; omega))).setCell Q4 _
            · rcases List.mem_append.1 hr with hr | hr
              · exact hge.out r hr a ha
              · simp at hr; subst hr
                rcases hown.out.shape with ⟨e, _⟩ | ⟨q', e, e2, _⟩
                · rw [e] at ha; cases ha
                · rw [e] at ha; injection ha with ha; subst ha
                  exact Nat.le_trans hbc.size e2)
    · obtain rfl : k = n := by omega
      go_wp2
      go_ret
      have h1 := hout.out
      rw [List.take_of_length_le (by have := hlen.out; omega)] at h1
      refine ⟨bm, A, rfl, ⟨k, cap, out, hat, h1, fun r hr a ha => ⟨hge.out r hr a ha, ((hat.2.2.2.2.2.1 r hr).at_ a ha).2.1⟩⟩, hb, lt_of_cell hat.1, hat.2.2.2.1, fun g hg => ?_⟩
      rcases hat.2.2.1.shape with ⟨e, _⟩ | ⟨q', e, e2, e3⟩
      · rw [e] at hg; cases hg
      · rw [e] at hg; injection hg with hg; injection hg with hg; omega
end Go.Proofs.YtmabmnkdigdaiaaDoor
