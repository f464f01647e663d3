/-
  merge.begin: the longest beginning that is a run.
-/
import Derived.Test.YtmabmnkdigdaiaaDoorJLeft
import Derived.Test.YtmabmnkdigdaiaaDoorJRight
import Derived.Test.YtmabmnkdigdaiaaDoorJSort
namespace Go.Proofs.YtmabmnkdigdaiaaDoor
open Go.RowKit

def goodAt (l : List Cell) : Nat → Bool
  | 0 => match l[0]? with
    | none => false
    | some c => c.ok
  | j + 1 => match l[j + 1]?, l[j]? with
    | some c, some b => c.ok && decide (b.order c < 0)
    | _, _ => false
def begGo (l : List Cell) : Nat → Nat → Nat
  | 0, k => k
  | f + 1, k => if goodAt l k = true then begGo l f (k + 1) else k
/-- The longest beginning that is a run. -/
def begC (l : List Cell) : List Cell := l.take (begGo l l.length 0)
theorem begGo_eq (l : List Cell) (m : Nat) (hm : goodAt l m = false) : ∀ (f k : Nat), k ≤ m → m - k ≤ f → (∀ j, k ≤ j → j < m → goodAt l j = true) → begGo l f k = m
  | 0, k, h1, h2, _ => by show k = m; omega
  | f + 1, k, h1, h2, h3 => by
    unfold begGo
    by_cases e : k = m
    · subst e; rw [hm]; rfl
    · rw [h3 k (Nat.le_refl _) (by omega), if_pos rfl]
      exact begGo_eq l m hm f (k + 1) (by omega) (by omega) (fun j h4 h5 => h3 j (by omega) h5)
theorem begC_eq (l : List Cell) (m : Nat) (hml : m ≤ l.length) (hm : goodAt l m = false) (h : ∀ j, j < m → goodAt l j = true) : begC l = l.take m := by
  unfold begC
  rw [begGo_eq l m hm l.length 0 (Nat.zero_le _) (by omega) (fun j _ hj => h j hj)]
theorem goodAt_end (l : List Cell) (k : Nat) (hk : l.length ≤ k) : goodAt l k = false := by
  cases k with
  | zero => unfold goodAt; rw [List.getElem?_eq_none hk]
  | succ j => show (match l[j + 1]?, l[j]? with
      | some c, some b => c.ok && decide (b.order c < 0)
      | _, _ => false) = false
              rw [List.getElem?_eq_none hk]
theorem goodAt_not {l : List Cell} {k : Nat} {c : Cell} (h : l[k]? = some c) (hc : c.ok = false) : goodAt l k = false := by
  cases k with
  | zero => show (match l[0]? with
      | none => false
      | some c => c.ok) = false
            rw [h]; exact hc
  | succ j => show (match l[j + 1]?, l[j]? with
      | some c, some b => c.ok && decide (b.order c < 0)
      | _, _ => false) = false
              rw [h]
              cases l[j]? with
              | none => rfl
              | some b => simp [hc]
theorem goodAt_zero {l : List Cell} {c : Cell} (h : l[0]? = some c) (hc : c.ok = true) : goodAt l 0 = true := by
  show (match l[0]? with
      | none => false
      | some c => c.ok) = true
  rw [h]; exact hc
theorem goodAt_succ {l : List Cell} {j : Nat} {b c : Cell} (h : l[j + 1]? = some c) (hb : l[j]? = some b) (hc : c.ok = true) : goodAt l (j + 1) = decide (b.order c < 0) := by
  show (match l[j + 1]?, l[j]? with
      | some c, some b => c.ok && decide (b.order c < 0)
      | _, _ => false) = _
  rw [h, hb]; simp [hc]
theorem rd_take {α : Type} {sz : Nat} {enc : α → List Value} {w : World} {A : Option Addr} {n : Nat} {xs : List α} (h : Rd sz enc w A n xs) (k : Nat) (hk : k ≤ n) : Rd sz enc w A k (xs.take k) :=
  ⟨by rw [List.length_take, ← h.len]; omega, fun i c hc => by
    rw [List.getElem?_take] at hc
    split at hc
    · exact h.at_ i c hc
    · cases hc⟩

theorem clone_calls (A : Option Addr) (n ca : Nat) (xs : List Cell) (w : World) (hx : RdC w A n xs) (hA : A = none ∨ ∃ b off, A = some ⟨b, off, none⟩) (hn : n ≤ 1000000) : Calls Tryd.prog 37 #[.slice A n ca] w (OutC xs w) := by
  rcases hA with rfl | ⟨b, off, rfl⟩
  · refine (Tryd.slices_Clone_nil_f37 n ca w).mono ?_
    rintro e w' ⟨rfl, rfl⟩
    have : xs = [] := by
      cases xs with
      | nil => rfl
      | cons c t =>
        obtain ⟨b, off, h, _⟩ := hx.at_ 0 c rfl
        cases h
    subst this
    exact ⟨none, 0, 0, rfl, Own.nil _ _ _ _ _, Below.refl _ _⟩
  · obtain ⟨i0, hi, hz0, hz1, hz2⟩ := info_parts infoCell
    have hl : (xs.flatMap Cell.l).length = n * 8 := by rw [flat_len Cell.l_len, hx.len]
    refine (Tryd.slices_Clone_f37 i0 _ 8 96 hi hz0 hz1 hz2 rfl (by omega) (fun w => ?_) b off n ca (xs.flatMap Cell.l) w hl (by unfold maxLen; omega) (by omega) (fun j u hj => ?_) (fun u hu => ?_)).mono ?_
    · exact Tryd.sizeOf35 w
    · obtain ⟨i, r, c, h2, h3, rfl⟩ := flat_back Cell.l_len xs j u hj
      obtain ⟨b', off', h4, _, h5⟩ := hx.at_ i c h2
      injection h4 with h4
      injection h4 with e1 e2 _
      subst e1; subst e2
      have := h5 r u h3
      rwa [show off + (i * 8 + r) = off + i * 8 + r from by omega]
    · obtain ⟨c, _, hc⟩ := List.mem_flatMap.1 hu
      exact c.l_one u hc
    · rintro e w' ⟨v', rfl, hown, hnn, hb⟩
      rcases hown.2 with ⟨h2, h3⟩ | ⟨g, cap', cur, h2, h3⟩
      · exact absurd h2 hnn
      · subst h2
        exact ⟨_, n, cap', rfl, ⟨hx.len, hown⟩, hb⟩

set_option maxHeartbeats 8000000 in
theorem begin_calls (A : Option Addr) (n ca : Nat) (l : List Cell) (w : World) (hx : RdC w A n l) (hA : A = none ∨ ∃ b off, A = some ⟨b, off, none⟩) (hn : n ≤ 1000000) (hroom : n ≤ ca) (hf : ∀ c ∈ l, c.fits) (hT : Lib.Utf8Tabs 1 2 w) :
    Calls Tryd.prog 30 #[.slice A n ca] w (OutC (begC l) w) := by
  have hroom' : (n : Int) ≤ (ca : Int) := by omega
  have hlen := Lib.hid hx.len
  have HF := Lib.hid hf
  have HA := Lib.hid hA
  have HX := Lib.hid hx
  have HT := Lib.hid hT
  clear hf hA hx hT
  go_enter Tryd.func30, Tryd.ntmps30
  go_wp2
  go_loopw [3] (fun i wr => ∃ k : Nat, i = .int .i64 k ∧ k ≤ n ∧ Hid (∀ j, j < k → goodAt l j = true) ∧ Below w.heap.size w wr) (fun i _ => n - (intOf i).toNat)
  case atStart => exact ⟨0, rfl, Nat.zero_le _, fun j hj => absurd hj (Nat.not_lt_zero _), Below.refl _ _⟩
  case round =>
    obtain ⟨k, rfl, hk, hgood, hb⟩ := hrel
    by_cases hlt : k < n
    · obtain ⟨c, b, off, hc, hAe, hbw, hc8⟩ := rd8 HX.out k hlt
      subst hAe
      have hcf := Lib.hid (HF.out c (List.mem_of_getElem? hc))
      have HC := Lib.hid hc
      clear hc
      have hok : ∀ X, Calls Tryd.prog 36 #[c.v] (wr.later X) fun e w'' => e = .returned (.bool c.ok) ∧ ∃ Y, w'' = wr.later Y := fun X => calls_later (right_calls c _ hcf.out (tabs_below HT.out (hb.trans ((later_below wr X).mono hb.size))))
      have HOK := Lib.hid hok
      clear hok
      obtain ⟨k0, k1, k2, k3, k4, k5, k6, k7⟩ := (hc8.below hb).later
      clear hc8
      cases hcok : c.ok with
      | false =>
        have hdec : decide ((k : Int) < (n : Int)) = true := decide_eq_true (by omega)
        have hi0 : (0 : Int) ≤ (k : Int) := by omega
        have hi1 : (k : Int) < (n : Int) := by omega
        rw [hcok] at HOK
        have hcok := Lib.hid hcok
        go_wp2
        refine wp_region_later (by kernel_rfl) (by kernel_rfl) ?_
        repeat (go_big_quiet_step ((go_at_call 36; exact HOK.out _)))
        refine wpQuiet_nil ?_
        intro W1 hW1
        have hB1 : Below wr.heap.size wr W1 := by
          obtain ⟨X, rfl⟩ := hW1
          exact later_below wr X
        have hbW : Below w.heap.size w W1 := hb.trans (hB1.mono hb.size)
        clear hW1 HOK k0 k1 k2 k3 k4 k5 k6 k7 hB1 hb
        have hcl := clone_calls _ k ca (l.take (k)) W1 (rd_take (HX.out.below (hbW)) (k) (by omega)) HA.out (by omega)
        have Hcl := Lib.hid hcl
        clear hcl
        have hkn : (k : Int) ≤ (ca : Int) := by omega
        have hkn' : (0 : Int) ≤ (k : Int) := by omega
        go_wp2_with (go_at_call 37; refine Hcl.out.mono ?_; rintro e w2 ⟨A', m, cap, rfl, hown, hb2⟩)
        go_ret
        rw [begC_eq l (k) (by have := hlen.out; omega) (goodAt_not HC.out hcok.out) hgood.out]
        exact ⟨A', m, cap, rfl, hown.lower hbW.size, hbW.trans (hb2.mono hbW.size)⟩
      | true =>
        rw [hcok] at HOK
        have hcok := Lib.hid hcok
        cases k with
        | zero =>
          have hn0 : (0 : Int) < (n : Int) := by omega
          have hdec : decide ((0 : Int) < (n : Int)) = true := decide_eq_true hn0
          have hgn : Hid (∀ j, j < 1 → goodAt l j = true) := fun j hj => by
            obtain rfl : j = 0 := by omega
            exact goodAt_zero HC.out hcok.out
          simp only [Nat.zero_mul, Nat.add_zero] at k0 k1 k2 k3 k4 k5 k6 k7
          go_wp2
          refine wp_region_later (by kernel_rfl) (by kernel_rfl) ?_
          repeat (go_big_quiet_step ((go_at_call 36; exact HOK.out _)))
          refine wpQuiet_nil ?_
          intro W1 hW1
          have hB1 : Below wr.heap.size wr W1 := by
            obtain ⟨X, rfl⟩ := hW1
            exact later_below wr X
          have hbW : Below w.heap.size w W1 := hb.trans (hB1.mono hb.size)
          clear hW1 HOK k0 k1 k2 k3 k4 k5 k6 k7 hB1 hb
          go_wp2
          go_roundw
          case rel => exact ⟨1, by go_num, by omega, hgn.out, hbW⟩
          case measure => simp [intOf]; omega
        | succ j =>
          have hdec : decide ((j : Int) + 1 < (n : Int)) = true := decide_eq_true (by omega)
          have hi0 : (0 : Int) ≤ (j : Int) + 1 := by omega
          have hi1 : (j : Int) + 1 < (n : Int) := by omega
          obtain ⟨d, b', off', hd, hA', _, hd8⟩ := rd8 HX.out j (by omega)
          injection hA' with hA'
          injection hA' with e1 e2 _
          subst e1; subst e2
          obtain ⟨l0, l1, l2, l3, l4, l5, l6, l7⟩ := (hd8.below hb).later
          have HDd := Lib.hid hd
          clear hd hd8
          obtain ⟨o, ho⟩ : ∃ o, o = d.order c := ⟨_, rfl⟩
          have Hord : Hid (∀ X, Calls Tryd.prog 33 #[d.v, c.v] (wr.later X) fun e w'' => e = .returned (.int .i64 o) ∧ ∃ Y, w'' = wr.later Y) := fun X => by rw [ho]; exact calls_later (order_calls d c _)
          have hw : IntKind.i64.wrap ((j : Int) + 1 - 1) = (j : Int) := by rw [IntWalk.i64_in _ (h := by omega)]; omega
          have hj0 : (0 : Int) ≤ (j : Int) := by omega
          have hj1 : (j : Int) < (n : Int) := by omega
          have hj2 : ¬ ((j : Int) + 1 = 0) := by omega
          have hj3 : ((j : Int) + 1 == 0) = false := by simp; omega
          have hgs : Hid (goodAt l (j + 1) = decide (o < 0)) := by rw [ho]; exact goodAt_succ HC.out HDd.out hcok.out
          clear ho
          go_wp2
          refine wp_region_later (by kernel_rfl) (by kernel_rfl) ?_
          repeat (go_big_quiet_step ((first | (go_at_call 33; exact Hord.out _) | (go_at_call 36; exact HOK.out _))))
          refine wpQuiet_nil ?_
          intro W1 hW1
          have hB1 : Below wr.heap.size wr W1 := by
            obtain ⟨X, rfl⟩ := hW1
            exact later_below wr X
          have hbW : Below w.heap.size w W1 := hb.trans (hB1.mono hb.size)
          clear hW1 HOK k0 k1 k2 k3 k4 k5 k6 k7 l0 l1 l2 l3 l4 l5 l6 l7 Hord hB1 hb
          by_cases hneg : o < 0
          · have hgn : Hid (∀ i, i < j + 1 + 1 → goodAt l i = true) := fun i hi => by
              rcases (by omega : i < j + 1 ∨ i = j + 1) with h | h
              · exact hgood.out i h
              · rw [h, hgs.out]; exact decide_eq_true hneg
            go_wp2
            go_roundw
            case rel => exact ⟨j + 1 + 1, by go_num, by omega, hgn.out, hbW⟩
            case measure => simp [intOf]; omega
          · have hgg : Hid (goodAt l (j + 1) = false) := by rw [hgs.out]; exact decide_eq_false hneg
            have hcl := clone_calls _ (j + 1) ca (l.take (j + 1)) W1 (rd_take (HX.out.below (hbW)) (j + 1) (by omega)) HA.out (by omega)
            have Hcl := Lib.hid hcl
            clear hcl
            have hkn : (j : Int) + 1 ≤ (ca : Int) := by omega
            have hkn' : (0 : Int) ≤ (j : Int) + 1 := by omega
            go_wp2_with (go_at_call 37; refine Hcl.out.mono ?_; rintro e w2 ⟨A', m, cap, rfl, hown, hb2⟩)
            go_ret
            rw [begC_eq l (j + 1) (by have := hlen.out; omega) (hgg.out) hgood.out]
            exact ⟨A', m, cap, rfl, hown.lower hbW.size, hbW.trans (hb2.mono hbW.size)⟩
    · obtain rfl : k = n := by omega
      have hbW := hb
      clear hb
      have hdec : decide ((k : Int) < (k : Int)) = false := decide_eq_false (by omega)
      have hfin : Hid (begC l = l) := by
        have := begC_eq l k (by have := hlen.out; omega) (goodAt_end l k (by have := hlen.out; omega)) hgood.out
        rwa [List.take_of_length_le (by have := hlen.out; omega)] at this
      rcases HA.out with rfl | ⟨b, off, rfl⟩
      · have hk0 : k = 0 := by
          cases k with
          | zero => rfl
          | succ k =>
            obtain ⟨c, b, off, _, h, _⟩ := rd8 HX.out 0 (by omega)
            cases h
        subst hk0
        go_wp2
        go_quiet (fail)
        have hbq := below_drewN wr nq
        have hbr := hbW.trans (hbq.mono hbW.size)
        generalize wr.drewN nq = W1 at *
        have hcl := clone_calls none 0 ca l W1 (HX.out.below hbr) (.inl rfl) (by omega)
        have Hcl := Lib.hid hcl
        clear hcl
        go_wp2_with (go_at_call 37; refine Hcl.out.mono ?_; rintro e w2 ⟨A', m, cap, rfl, hown, hb2⟩)
        go_ret
        rw [hfin.out]
        exact ⟨A', m, cap, rfl, hown.lower hbr.size, hbr.trans (hb2.mono hbr.size)⟩
      · go_wp2
        go_quiet (fail)
        have hbq := below_drewN wr nq
        have hbr := hbW.trans (hbq.mono hbW.size)
        generalize wr.drewN nq = W1 at *
        have hcl := clone_calls _ k ca l W1 (HX.out.below hbr) HA.out (by omega)
        have Hcl := Lib.hid hcl
        clear hcl
        have hkn' : (0 : Int) ≤ (k : Int) := by omega
        go_wp2_with (go_at_call 37; refine Hcl.out.mono ?_; rintro e w2 ⟨A', m, cap, rfl, hown, hb2⟩)
        go_ret
        rw [hfin.out]
        exact ⟨A', m, cap, rfl, hown.lower hbr.size, hbr.trans (hb2.mono hbr.size)⟩
end Go.Proofs.YtmabmnkdigdaiaaDoor
