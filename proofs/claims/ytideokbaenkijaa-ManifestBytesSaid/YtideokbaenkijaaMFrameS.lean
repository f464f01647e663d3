/-
  sum.Frame, sum.begun.
-/
import Derived.Test.YtideokbaenkijaaMSum
namespace Go.Proofs.Ytideokbaenkijaa
open Go.RowKit

set_option maxHeartbeats 1000000 in
set_option maxRecDepth 20000 in
theorem frame_calls (A : Option Addr) (n ca : Nat) (xs : List Int) (w : World) (hx : RdB w A n xs) (hA : A = none → ca = 0) (hb : Bytes xs) (hn : n ≤ 60000) :
    Calls Try.prog 56 #[.slice A n ca] w fun e w' => ∃ B m cap, e = .returned (.tuple #[.slice B m cap, .bool true]) ∧ OwnB w' w.heap.size B m cap (frameL xs) ∧ Below w.heap.size w w' := by
  have HN := Lib.hid (num_calls n w (by omega))
  have hle : ¬ ((n : Int) > 65536) := by omega
  have HL := Lib.hid hx.len
  have HX := Lib.hid hx
  have HBY := Lib.hid hb
  have HA := Lib.hid hA
  clear hx hb hA
  go_enter Try.func56, Try.ntmps56
  go_wp2_with fail
  refine HN.out.mono ?_
  rintro e w1 ⟨B1, m1, c1, rfl, ho1, hb1⟩
  have HE := Lib.hid (ending_calls A n ca xs w1 (HX.out.below hb1) HBY.out (by omega))
  have HO1 := Lib.hid ho1
  have HB1 := Lib.hid hb1
  clear ho1 hb1 HN
  go_wp2_with fail
  refine HE.out.mono ?_
  rintro e w2 ⟨g2, c2, rfl, ho2, hb2⟩
  have HO2 := Lib.hid ho2
  have HB2 := Lib.hid (HB1.out.trans (hb2.mono HB1.out.size))
  have HO12 := Lib.hid (HO1.out.below hb2)
  clear ho2 hb2 HE HO1 HB1
  have hbl : Below w2.heap.size w2 (w2.alloc (.cells #[.slice B1 m1 c1, .slice A n ca, .slice (some ⟨g2, 0, none⟩) 4 c2] 25)) := (Below.refl _ _).alloc (Nat.le_refl _) _
  have hrd : Rd 1 BRow.l (w2.alloc (.cells #[.slice B1 m1 c1, .slice A n ca, .slice (some ⟨g2, 0, none⟩) 4 c2] 25)) (some ⟨w2.heap.size, 0, none⟩) 3 [⟨B1, m1, c1, vlq n⟩, ⟨A, n, ca, xs⟩, ⟨some ⟨g2, 0, none⟩, 4, c2, endL (chkL xs)⟩] := rd_block (cs := #[.slice B1 m1 c1, .slice A n ca, .slice (some ⟨g2, 0, none⟩) 4 c2]) (heap_alloc_new w2 _) [⟨B1, m1, c1, vlq n⟩, ⟨A, n, ca, xs⟩, ⟨some ⟨g2, 0, none⟩, 4, c2, endL (chkL xs)⟩] rfl BRow.l_len
  have hfl : frameL xs = ([⟨B1, m1, c1, vlq n⟩, ⟨A, n, ca, xs⟩, ⟨some ⟨g2, 0, none⟩, 4, c2, endL (chkL xs)⟩] : List BRow).flatMap BRow.xs := by
    unfold frameL
    rw [← HL.out]
    simp only [List.flatMap_cons, List.flatMap_nil, List.append_nil, List.append_assoc]
  have hsm := vlq_small (n := xs.length) (by have := HL.out; omega)
  have hcat := concat_calls w2.heap.size 3 _ _ hrd (fun r hr => by
    simp only [List.mem_cons, List.not_mem_nil, or_false] at hr
    rcases hr with rfl | rfl | rfl
    · exact (own_brow HO12.out).below hbl
    · exact ⟨(HX.out.below HB2.out).below hbl, HA.out⟩
    · exact (own_brow HO2.out).below hbl) (by
    unfold sumL
    rw [← hfl]
    unfold frameL
    simp only [List.length_append, endL_len]
    have := HL.out
    omega) (by omega)
  rw [← hfl] at hcat
  have HC := Lib.hid hcat
  have HB3 := Lib.hid (HB2.out.trans (hbl.mono HB2.out.size))
  clear hbl hrd hfl hsm hcat HO2 HO12 HX
  go_wp2_with fail
  refine HC.out.mono ?_
  rintro e w4 ⟨B4, m4, c4, rfl, ho4, hb4⟩
  have HO4 := Lib.hid (ho4.lower HB3.out.size)
  have HB4 := Lib.hid (HB3.out.trans (hb4.mono HB3.out.size))
  clear ho4 hb4 HC
  go_wp2_with fail
  go_ret2
  exact ⟨B4, m4, c4, rfl, HO4.out, HB4.out⟩

/-! ### begun -/
abbrev begF : Value := .func (.func 81) #[] #[]
theorem low_calls (c : Int) (w : World) : Calls Try.prog 81 #[.int .u8 c] w fun e w' => e = .returned (.bool (decide (c < 128))) ∧ w' = w := by
  go_enter Try.func81, Try.ntmps81
  go_wp2
  go_ret
  exact ⟨rfl, rfl⟩
theorem all_take {p : Int → Bool} {xs : List Int} {k : Nat} {c : Int} (h : (xs.take k).all p = true) (hc : xs[k]? = some c) (hp : p c = true) : (xs.take (k + 1)).all p = true := by
  rw [take_at hc, List.all_append, h, Bool.true_and, List.all_cons, hp]
  rfl
set_option maxHeartbeats 1000000 in
theorem idxb_calls (A : Option Addr) (n ca : Nat) (xs : List Int) (w : World) (hx : RdB w A n xs) (hb : Bytes xs) (hn : n ≤ 100000000) :
    Calls Try.prog 91 #[.slice A n ca, begF] w fun e w' => (∃ k : Int, e = .returned (.int .i64 k) ∧ decide (k ≥ 0) = !(xs.all fun c => decide (128 ≤ c))) ∧ Below w.heap.size w w' := by
  have HX := Lib.hid hx
  have HBY := Lib.hid hb
  clear hx hb
  go_enter Try.func91, Try.ntmps91
  go_wp2
  go_loopw [8] (fun i wr => ∃ k : Nat, k ≤ n ∧ i = .int .i64 k ∧ Hid (Below w.heap.size w wr) ∧ Hid ((xs.take k).all (fun c => decide (128 ≤ c)) = true)) (fun i _ => n - (intOf i).toNat)
  case atStart => exact ⟨0, Nat.zero_le _, rfl, Below.refl _ _, rfl⟩
  case round =>
    obtain ⟨k, hk, rfl, HB, HN⟩ := hrel
    by_cases hlt : k < n
    · obtain ⟨c, b, off, hc, rfl, _, hc0⟩ := (HX.out.below HB.out).get k hlt
      have c0 := hc0 0 _ rfl
      simp only [Nat.mul_one, Nat.add_zero] at c0
      have HC := Lib.hid hc
      have HCL := Lib.hid (low_calls c wr)
      clear hc hc0
      go_wp2_with fail
      refine HCL.out.mono ?_
      rintro e w2 ⟨rfl, rfl⟩
      by_cases he : c < 128
      · rw [decide_eq_true he]
        have HE := Lib.hid he
        clear he
        go_wp2
        go_ret
        refine ⟨⟨_, rfl, ?_⟩, HB.out⟩
        have : xs.all (fun c => decide (128 ≤ c)) = false := by
          rw [← Bool.not_eq_true, List.all_eq_true]
          intro h
          have := h c (List.mem_of_getElem? HC.out)
          rw [decide_eq_true_eq] at this
          have := HE.out
          omega
        rw [this]
        simp
      · rw [decide_eq_false he]
        have HE := Lib.hid he
        clear he
        go_wp2
        go_roundw
        case rel => exact ⟨k + 1, by omega, by go_num, HB.out, all_take HN.out HC.out (decide_eq_true (by have := HE.out; omega))⟩
        case measure => simp [intOf]; omega
    · have hxs : xs.take k = xs := List.take_of_length_le (by rw [← HX.out.len]; omega)
      rw [hxs] at HN
      clear hxs
      go_wp2
      go_ret
      exact ⟨⟨_, rfl, by rw [HN.out]; rfl⟩, HB.out⟩
theorem cont_calls (A : Option Addr) (n ca : Nat) (xs : List Int) (w : World) (hx : RdB w A n xs) (hb : Bytes xs) (hn : n ≤ 100000000) :
    Calls Try.prog 80 #[.slice A n ca, begF] w fun e w' => e = .returned (.bool (!(xs.all fun c => decide (128 ≤ c)))) ∧ Below w.heap.size w w' := by
  have HI := Lib.hid (idxb_calls A n ca xs w hx hb hn)
  clear hx
  go_enter Try.func80, Try.ntmps80
  go_wp2_with fail
  refine HI.out.mono ?_
  rintro e w2 ⟨⟨k, rfl, hk⟩, hb2⟩
  have HK := Lib.hid hk
  have HB2 := Lib.hid hb2
  clear hk hb2 HI
  go_wp2_with fail
  go_ret
  exact ⟨ret_bool HK.out, HB2.out⟩
theorem begun_calls (A : Option Addr) (n ca : Nat) (xs : List Int) (w : World) (hx : RdB w A n xs) (hb : Bytes xs) (hn : n ≤ 100000000) :
    Calls Try.prog 62 #[.slice A n ca] w fun e w' => e = .returned (.bool (begunL xs)) ∧ Below w.heap.size w w' := by
  have HI := Lib.hid (cont_calls A n ca xs w hx hb hn)
  have HL := Lib.hid hx.len
  clear hx
  by_cases h8 : n ≤ 8
  · have h8' : (n : Int) ≤ 8 := by omega
    have hbe : begunL xs = xs.all (fun c => decide (128 ≤ c)) := by unfold begunL; rw [← HL.out, decide_eq_true h8, Bool.true_and]
    rw [hbe]
    clear hbe
    obtain ⟨t, ht⟩ : ∃ t, t = xs.all (fun c => decide (128 ≤ c)) := ⟨_, rfl⟩
    rw [← ht] at HI ⊢
    clear ht
    go_enter Try.func62, Try.ntmps62
    go_wp2_with fail
    refine HI.out.mono ?_
    rintro e w2 ⟨rfl, hb2⟩
    have HB2 := Lib.hid hb2
    clear hb2 HI
    go_wp2_with fail
    go_ret
    exact ⟨ret_bool (by simp), HB2.out⟩
  · have h8' : ¬ (n : Int) ≤ 8 := by omega
    have hbe : begunL xs = false := by unfold begunL; rw [← HL.out, decide_eq_false h8, Bool.false_and]
    rw [hbe]
    clear HI
    go_enter Try.func62, Try.ntmps62
    go_wp2_with fail
    go_ret
    exact ⟨rfl, Below.refl _ _⟩
end Go.Proofs.Ytideokbaenkijaa
