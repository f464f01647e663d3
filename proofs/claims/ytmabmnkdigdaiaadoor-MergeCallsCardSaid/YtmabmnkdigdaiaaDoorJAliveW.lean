/-
  The law package's alive (merge), walked.
-/
import Derived.Test.YtmabmnkdigdaiaaDoorJLawB
import Derived.Test.YtmabmnkdigdaiaaDoorJAlive
import Derived.Outline
namespace Go.Proofs.YtmabmnkdigdaiaaDoor
open Go.RowKit

def aliveRow1 (b : Nat) : Row := ⟨some ⟨b, 0, none⟩, 1, 1, [putC sb 1]⟩
def aliveRow2 (b : Nat) : Row := ⟨some ⟨b, 0, none⟩, 3, 3, [putC sa 2, putC sb 3, putC sc 4]⟩
theorem isInt_lit {n : Int} (h0 : 0 ≤ n) (h1 : n ≤ 1000) : isInt n := by unfold isInt; omega
theorem row_lit {w : World} {b : Nat} {cs : Array Value} {T : TypeId} {f : Nat × Nat} {xs : List Cell} (h : w.heap[b]? = some (.cells cs T f)) (hx : cs.toList = xs.flatMap Cell.l) (hl : xs.length ≤ 1000000) (hf : ∀ c ∈ xs, c.fits) : RowOk w ⟨some ⟨b, 0, none⟩, xs.length, xs.length, xs⟩ :=
  ⟨rd_block h xs hx Cell.l_len, .inr ⟨b, 0, rfl⟩, fun e => (by cases e), Nat.le_refl _, hl, hf⟩
theorem heap_old {w : World} {o : Obj} {b : Nat} (h : b < w.heap.size) : (w.alloc o).heap[b]? = w.heap[b]? := by
  exact (((Below.refl w.heap.size w).alloc (Nat.le_refl _) o).block b h)
theorem alive_rows {w1 w4 : World} (hb : Below (w1.alloc (.cells (putC sb 1).cells 35)).heap.size (w1.alloc (.cells (putC sb 1).cells 35)) w4) :
    RdRows ((w4.alloc (.cells ((putC sa 2).cells ++ (putC sb 3).cells ++ (putC sc 4).cells) 35)).alloc (.cells #[.slice (some ⟨w1.heap.size, 0, none⟩) 1 1, .slice (some ⟨w4.heap.size, 0, none⟩) 3 3] 23)) (some ⟨w4.heap.size + 1, 0, none⟩) 2 [aliveRow1 w1.heap.size, aliveRow2 w4.heap.size] := by
  have hs := hb.size
  simp at hs
  have e2 : (w4.alloc (.cells ((putC sa 2).cells ++ (putC sb 3).cells ++ (putC sc 4).cells) 35)).heap.size = w4.heap.size + 1 := by simp
  have h1 : w4.heap[w1.heap.size]? = some (.cells (putC sb 1).cells 35) := by
    rw [hb.block w1.heap.size (by simp), heap_alloc_new]
  refine rows_two (r := aliveRow1 w1.heap.size) (q := aliveRow2 w4.heap.size) (T := 23) (f := (0, 0)) ?_ ?_ ?_
  · rw [← e2, heap_alloc_new]; rfl
  · refine row_lit (xs := [putC sb 1]) (cs := (putC sb 1).cells) (T := 35) (f := (0, 0)) ?_ rfl (by decide) fun c hc => ?_
    · rw [heap_old (by omega), heap_old (by omega), h1]
    · simp at hc; subst hc; exact put_fits _ _ (by decide) (isInt_lit (by omega) (by omega))
  · refine row_lit (xs := [putC sa 2, putC sb 3, putC sc 4]) (cs := (putC sa 2).cells ++ (putC sb 3).cells ++ (putC sc 4).cells) (T := 35) (f := (0, 0)) ?_ rfl (by decide) fun c hc => ?_
    · rw [heap_old (by omega), heap_alloc_new]
    · simp only [List.mem_cons, List.not_mem_nil, or_false] at hc
      rcases hc with rfl | rfl | rfl <;> exact put_fits _ _ (by decide) (isInt_lit (by omega) (by omega))
theorem alive_begL (a b : Nat) : begL [aliveRow1 a, aliveRow2 b] = aliveL := alive_beg
theorem alive_rises : ∀ l ∈ aliveL, Rises l := fun l hl => by
  rw [← alive_beg] at hl
  obtain ⟨q, _, rfl⟩ := List.mem_map.1 hl
  exact begC_rises _

attribute [local go_sem high] eqCell
set_option maxHeartbeats 8000000 in
theorem alive_calls (w : World) (hT : Lib.Utf8Tabs 1 2 w) : Calls Tryd.prog 8 #[] w fun e w' => e = .returned (.bool true) ∧ Below w.heap.size w w' := by
  have HT := Lib.hid hT
  clear hT
  go_enter Tryd.func8, Tryd.ntmps8
  go_wp2_with fail
  refine (put_calls _ _ _).mono ?_; rintro e w1 ⟨rfl, hb1⟩
  go_wp2_with fail
  refine (put_calls _ _ _).mono ?_; rintro e w2 ⟨rfl, hb2⟩
  go_wp2_with fail
  refine (put_calls _ _ _).mono ?_; rintro e w3 ⟨rfl, hb3⟩
  go_wp2_with fail
  refine (put_calls _ _ _).mono ?_; rintro e w4 ⟨rfl, hb4⟩
  have hb14 := (hb2.trans (hb3.mono hb2.size)).trans (hb4.mono (Nat.le_trans hb2.size hb3.size))
  have hrows := Lib.hid (alive_rows hb14)
  have hB5 : Below w.heap.size w ((w4.alloc (.cells ((putC sa 2).cells ++ (putC sb 3).cells ++ (putC sc 4).cells) 35)).alloc (.cells #[.slice (some ⟨w1.heap.size, 0, none⟩) 1 1, .slice (some ⟨w4.heap.size, 0, none⟩) 3 3] 23)) :=
    (((hb1.alloc hb1.size _).trans (hb14.mono (by have := hb1.size; simp; omega))).alloc (by have := hb1.size; have := hb14.size; simp at this ⊢; omega) _).alloc (by have := hb1.size; have := hb14.size; simp at this ⊢; omega) _
  have HB5 := Lib.hid hB5
  clear hb1 hb2 hb3 hb4 hb14 hB5
  have HT5 := Lib.hid (tabs_below HT.out HB5.out)
  go_wp2_with fail
  refine (merge_calls _ 2 2 _ _ hrows.out (by omega) (by rw [alive_begL]; exact (by rw [alive_left]; omega)) HT5.out).mono ?_
  rintro e w6 ⟨out, hm, A1, n1, c1, rfl, hown1, hb6⟩
  rw [alive_begL] at hm
  obtain rfl := hm.unique alive_merged
  have hrows6 := Lib.hid (hrows.out.below hb6)
  have HT6 := Lib.hid (tabs_below HT5.out hb6)
  have HB6 := Lib.hid (HB5.out.trans (hb6.mono HB5.out.size))
  have HO1 := Lib.hid hown1
  have own_lt6 : Hid (∀ g, A1 = some ⟨g, 0, none⟩ → g < w6.heap.size) := fun g hg => by
    rcases hown1.shape with ⟨e, _⟩ | ⟨q, e, e2, e3⟩
    · rw [e] at hg; cases hg
    · rw [e] at hg; injection hg with hg; injection hg with hg; omega
  have HB6s := Lib.hid HB6.out.size
  clear hown1 hb6 hm HB5 HT5
  go_wp2_with fail
  refine (new_calls _ 2 2 _ _ hrows6.out (by omega) HT6.out).mono ?_
  rintro e w7 ⟨bm, A, rfl, hM, hb7, hbm1, hbm2, hA⟩
  rw [alive_begL] at hM
  have HM := Lib.hid hM
  have HB7 := Lib.hid (HB6.out.trans (hb7.mono HB6.out.size))
  have HO7 := Lib.hid (HO1.out.below hb7)
  have HA := Lib.hid hA
  clear hM hb7 hA HO1 HB6
  go_wp2_with fail
  refine (left_calls _ _ _ _ _ _ HM.out).mono ?_
  rw [alive_left]
  rintro e w8 ⟨rfl, hb8⟩
  have HM8 := Lib.hid (HM.out.later hb8)
  have HB8 := Lib.hid (HB7.out.trans (hb8.mono HB7.out.size))
  have HO8 := Lib.hid (HO7.out.below hb8)
  have hsz8 := hb8.size
  clear hb8 HM HB7 HO7
  go_wp2_with fail
  refine (put_calls _ _ _).mono ?_; rintro e w9 ⟨rfl, hb9⟩
  have HM9 := Lib.hid (HM8.out.later hb9)
  have HB9 := Lib.hid (HB8.out.trans (hb9.mono HB8.out.size))
  have HO9 := Lib.hid (HO8.out.below hb9)
  have hsz9 := hb9.size
  clear hb9 HM8 HB8 HO8
  go_wp2_with fail
  refine (skip_calls _ _ _ _ _ _ _ HM9.out alive_rises).mono ?_
  rintro e w10 ⟨rfl, hM, ho⟩
  have hmine : Hid (∀ i, Mine bm A i → w6.heap.size ≤ i) := fun i hi => by
    rcases hi with rfl | hi
    · exact hbm2
    · exact (HA.out i hi).1
  have hsz10 := ho.size
  have HM10 := Lib.hid hM
  have HB10 := Lib.hid (HB9.out.trans (ho.below HB9.out.size (fun i hi => by have := hmine.out i hi; have := HB6s.out; omega)))
  have HO10 := Lib.hid (HO9.out.only ho (fun g hg e => by have := hmine.out g e; have := (own_lt6.out g hg); omega))
  clear hM ho HM9 HB9 HO9
  go_wp2_with fail
  refine (next_some _ _ _ _ _ _ HM10.out (rises_map alive_rises _) (by omega) _ _ alive_best).mono ?_
  rintro e w11 ⟨rfl, hM, ho⟩
  have hsz11 := ho.size
  have HM11 := Lib.hid hM
  have HB11 := Lib.hid (HB10.out.trans (ho.below HB10.out.size (fun i hi => by have := hmine.out i hi; have := HB6s.out; omega)))
  have HO11 := Lib.hid (HO10.out.only ho (fun g hg e => by have := hmine.out g e; have := (own_lt6.out g hg); omega))
  clear hM ho HM10 HB10 HO10
  go_wp2_with fail
  obtain ⟨q12, hq12⟩ := one_box w11 (putC sb 1).cells 35
  have HO12 := Lib.hid (HO11.out.below q12)
  have HB12 := Lib.hid (HB11.out.trans (q12.mono HB11.out.size))
  have HM12 := Lib.hid (HM11.out.later q12)
  have hn1 := HO12.out.1
  refine (split_calls A1 n1 c1 _ _ _ (HO12.out.rd Cell.l_len) (by rw [hn1]; simp)).mono ?_
  rintro e w13 ⟨A2, n2, c2, A3, n3, c3, rfl, hown2, hown3, hb13, _, _⟩
  rw [alive_below] at hown2
  rw [alive_others] at hown3
  obtain rfl : n1 = 3 := hn1
  obtain rfl : n2 = 1 := hown2.1
  obtain rfl : n3 = 2 := hown3.1
  have HM13 := Lib.hid (HM12.out.later hb13)
  have HB13 := Lib.hid (HB12.out.trans (hb13.mono HB12.out.size))
  have box : At8 w13 w11.heap.size 0 (putC sb 1) := fun j v hv => by
    rw [Nat.zero_add]
    exact below_cell hb13 (Nat.le_refl _) (hq12 j v (by simpa [Cell.l] using hv))
  have HO13 := Lib.hid ((HO12.out.below hb13).rd Cell.l_len)
  clear hown2 hown3 hb13 HM11 HM12 HB11 HB12 HO11 HO12 hq12 q12
  obtain ⟨d0, b0, o0, e0, rfl, _, a0⟩ := rd8 HO13.out 0 (by omega)
  obtain ⟨d1, b1, o1, e1, f1, _, a1⟩ := rd8 HO13.out 1 (by omega)
  injection f1 with f1
  injection f1 with f1 f2 _
  subst f1; subst f2
  obtain rfl : putC sa 2 = d0 := by simpa using e0
  obtain rfl : putC sb 1 = d1 := by simpa using e1
  clear e0 e1
  simp only [Nat.zero_mul, Nat.add_zero, Nat.one_mul] at a0 a1
  obtain ⟨k0, k1, k2, k3, k4, k5, k6, k7⟩ := a0.later
  obtain ⟨l0, l1, l2, l3, l4, l5, l6, l7⟩ := a1.later
  obtain ⟨m0, m1, m2, m3, m4, m5, m6, m7⟩ := box.later
  have hput : Hid (∀ r n X, Calls Tryd.prog 29 #[.string r, .int .i64 n] (w13.later X) fun e w'' => e = .returned (putC r n).v ∧ ∃ Y, w'' = w13.later Y) := fun r n X => calls_later (put_calls r n _)
  have hleft : Hid (∀ X, Calls Tryd.prog 16 #[.pointer (some ⟨bm, 0, none⟩)] (w13.later X) fun e w'' => e = .returned (.int .i64 1) ∧ ∃ Y, w'' = w13.later Y) := fun X => calls_later (by
    have := left_calls _ _ _ _ _ (w13.later X) (HM13.out.later (later_below w13 X))
    rw [alive_next] at this
    exact this)
  clear a0 a1 box
  go_wp2
  refine wp_region_later (by kernel_rfl) (by kernel_rfl) ?_
  repeat (go_big_quiet_step ((first | (go_at_call 29; exact hput.out _ _ _) | (go_at_call 16; exact hleft.out _))))
  refine wpQuiet_nil ?_
  intro W1 hW1
  have hB1 : Below w13.heap.size w13 W1 := by
    obtain ⟨X, rfl⟩ := hW1
    exact later_below w13 X
  clear hW1 k0 k1 k2 k3 k4 k5 k6 k7 l0 l1 l2 l3 l4 l5 l6 l7 m0 m1 m2 m3 m4 m5 m6 m7
  go_wp2
  go_ret
  exact ⟨rfl, HB13.out.trans (hB1.mono HB13.out.size)⟩
end Go.Proofs.YtmabmnkdigdaiaaDoor
