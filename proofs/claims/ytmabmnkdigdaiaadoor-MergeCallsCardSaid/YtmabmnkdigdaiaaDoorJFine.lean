/-
  joistref08.Fine: is a list a run?
-/
import Derived.Test.YtmabmnkdigdaiaaDoorJLawA
namespace Go.Proofs.YtmabmnkdigdaiaaDoor
open Go.RowKit

def fineC (l : List Cell) : Bool := decide (∀ k, k < l.length → goodAt l k = true)
theorem fine_not {l : List Cell} {k : Nat} (hk : k < l.length) (h : goodAt l k = false) : fineC l = false := decide_eq_false fun h2 => by rw [h2 k hk] at h; cases h

set_option maxHeartbeats 8000000 in
theorem fine_calls (A : Option Addr) (n ca : Nat) (l : List Cell) (w : World) (hx : RdC w A n l) (hn : n ≤ 1000000) (hf : ∀ c ∈ l, c.fits) :
    Calls Tryd.prog 26 #[.slice A n ca] w fun e w' => e = .returned (.bool (fineC l)) ∧ Below w.heap.size w w' := by
  have hlen := Lib.hid hx.len
  have HF := Lib.hid hf
  have HX := Lib.hid hx
  clear hf hx
  go_enter Tryd.func26, Tryd.ntmps26
  go_wp2
  go_loopg [3] n (fun gk i wr => ∃ k : Nat, i = .int .i64 k ∧ k ≤ n ∧ gk = n - k ∧ Hid (∀ j, j < k → goodAt l j = true) ∧ Below w.heap.size w wr)
  case atStart => exact ⟨0, rfl, Nat.zero_le _, rfl, fun j hj => absurd hj (Nat.not_lt_zero _), Below.refl _ _⟩
  case round =>
    obtain ⟨k, rfl, hk, rfl, hgood, hb⟩ := hrel
    by_cases hlt : k < n
    · obtain ⟨c, b, off, hc, hAe, hbw, hc8⟩ := rd8 HX.out k hlt
      subst hAe
      have hcf := Lib.hid (HF.out c (List.mem_of_getElem? hc))
      have HC := Lib.hid hc
      clear hc
      have HOK : Hid (∀ X, Calls Tryd.prog 32 #[c.v] (wr.later X) fun e w'' => e = .returned (.bool c.ok) ∧ ∃ Y, w'' = wr.later Y) := fun X => calls_later (rright_calls c _ hcf.out)
      obtain ⟨k0, k1, k2, k3, k4, k5, k6, k7⟩ := (hc8.below hb).later
      clear hc8
      cases hcok : c.ok with
      | false =>
        have hi0 : (0 : Int) ≤ (k : Int) := by omega
        have hi1 : (k : Int) < (n : Int) := by omega
        rw [hcok] at HOK
        have hcok := Lib.hid hcok
        go_wp2
        refine wp_region_later (by kernel_rfl) (by kernel_rfl) ?_
        repeat (go_big_quiet_step ((go_at_call 32; exact HOK.out _)))
        refine wpQuiet_nil ?_
        intro W1 hW1
        have hB1 : Below wr.heap.size wr W1 := by
          obtain ⟨X, rfl⟩ := hW1
          exact later_below wr X
        have hbW : Below w.heap.size w W1 := hb.trans (hB1.mono hb.size)
        clear hW1 HOK k0 k1 k2 k3 k4 k5 k6 k7 hB1 hb
        go_wp2
        go_ret
        exact ⟨ret_bool (by rw [fine_not (by have := hlen.out; omega) (goodAt_not HC.out hcok.out)]), hbW⟩
      | true =>
        rw [hcok] at HOK
        have hcok := Lib.hid hcok
        cases k with
        | zero =>
          have hn0 : (0 : Int) < (n : Int) := by omega
          have hgn : Hid (∀ j, j < 1 → goodAt l j = true) := fun j hj => by
            obtain rfl : j = 0 := by omega
            exact goodAt_zero HC.out hcok.out
          simp only [Nat.zero_mul, Nat.add_zero] at k0 k1 k2 k3 k4 k5 k6 k7
          have hdec : decide ((0 : Int) < 0) = false := by simp
          go_wp2
          refine wp_region_later (by kernel_rfl) (by kernel_rfl) ?_
          repeat (go_big_quiet_step ((go_at_call 32; exact HOK.out _)))
          refine wpQuiet_nil ?_
          intro W1 hW1
          have hB1 : Below wr.heap.size wr W1 := by
            obtain ⟨X, rfl⟩ := hW1
            exact later_below wr X
          have hbW : Below w.heap.size w W1 := hb.trans (hB1.mono hb.size)
          clear hW1 HOK k0 k1 k2 k3 k4 k5 k6 k7 hB1 hb
          go_wp2
          go_roundg (n - 1)
          case measure => omega
          case rel => exact ⟨1, by go_num, by omega, by omega, hgn.out, hbW⟩
        | succ j =>
          have hi0 : (0 : Int) ≤ (j : Int) + 1 := by omega
          have hi1 : (j : Int) + 1 < (n : Int) := by omega
          have hdec : decide ((0 : Int) < (j : Int) + 1) = true := decide_eq_true (by omega)
          have hpos : (0 : Int) < (j : Int) + 1 := by omega
          obtain ⟨d, b', off', hd, hA', _, hd8⟩ := rd8 HX.out j (by omega)
          injection hA' with hA'
          injection hA' with e1 e2 _
          subst e1; subst e2
          obtain ⟨l0, l1, l2, l3, l4, l5, l6, l7⟩ := (hd8.below hb).later
          have hdf := Lib.hid (HF.out d (List.mem_of_getElem? hd)).small'
          have hcs := Lib.hid hcf.out.small'
          have HDd := Lib.hid hd
          clear hd hd8
          obtain ⟨o, ho⟩ : ∃ o, o = d.order c := ⟨_, rfl⟩
          have Hord : Hid (∀ X, Calls Tryd.prog 27 #[d.v, c.v] (wr.later X) fun e w'' => e = .returned (.int .i64 o) ∧ ∃ Y, w'' = wr.later Y) := fun X => by rw [ho]; exact calls_later (rorder_calls d c _ hdf.out hcs.out)
          have hw : IntKind.i64.wrap ((j : Int) + 1 - 1) = (j : Int) := by rw [IntWalk.i64_in _ (h := by omega)]; omega
          have hj0 : (0 : Int) ≤ (j : Int) := by omega
          have hj1 : (j : Int) < (n : Int) := by omega
          have hgs : Hid (goodAt l (j + 1) = decide (o < 0)) := by rw [ho]; exact goodAt_succ HC.out HDd.out hcok.out
          clear ho
          go_wp2
          refine wp_region_later (by kernel_rfl) (by kernel_rfl) ?_
          repeat (go_big_quiet_step ((first | (go_at_call 27; exact Hord.out _) | (go_at_call 32; exact HOK.out _))))
          refine wpQuiet_nil ?_
          intro W1 hW1
          have hB1 : Below wr.heap.size wr W1 := by
            obtain ⟨X, rfl⟩ := hW1
            exact later_below wr X
          have hbW : Below w.heap.size w W1 := hb.trans (hB1.mono hb.size)
          clear hW1 HOK k0 k1 k2 k3 k4 k5 k6 k7 l0 l1 l2 l3 l4 l5 l6 l7 Hord hB1 hb
          by_cases hneg : o < 0
          · have hgn : Hid (∀ i, i < j + 1 + 1 → goodAt l i = true) := fun i hi => by
              rcases (by omega : i < j + 1 ∨ i = j + 1) with h | h
              · exact hgood.out i h
              · rw [h, hgs.out]; exact decide_eq_true hneg
            go_wp2
            go_roundg (n - (j + 1 + 1))
            case measure => omega
            case rel => exact ⟨j + 1 + 1, by go_num, by omega, by omega, hgn.out, hbW⟩
          · have hgg : Hid (goodAt l (j + 1) = false) := by rw [hgs.out]; exact decide_eq_false hneg
            go_wp2
            go_ret
            exact ⟨ret_bool (by rw [fine_not (by have := hlen.out; omega) hgg.out]), hbW⟩
    · obtain rfl : k = n := by omega
      have hfin : Hid (fineC l = true) := decide_eq_true fun j hj => hgood.out j (by have := hlen.out; omega)
      go_wp2
      go_ret
      exact ⟨ret_bool (by rw [hfin.out]), hb⟩
end Go.Proofs.YtmabmnkdigdaiaaDoor
