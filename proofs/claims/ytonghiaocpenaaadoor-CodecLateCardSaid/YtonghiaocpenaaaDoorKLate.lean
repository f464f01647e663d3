/-
  CodecLate, walked: whatever the cell and the time, it answers true and turns nothing that was there.
-/
import Derived.Test.YtonghiaocpenaaaDoorKAliveW
import Derived.Test.YtonghiaocpenaaaDoorKLawP
import Derived.Outline
namespace Go.Proofs.YtonghiaocpenaaaDoor
open Go.RowKit

attribute [local go_sem high] eqCell
set_option maxHeartbeats 4000000 in
set_option maxRecDepth 20000 in
theorem late_calls (c : Cell) (t : Int) (w : World) (hc : c.fits) (ht : isInt t) (hG : Ground w) :
    Calls Tryd.prog 4 #[c.v, .int .i64 t] w fun e w' => e = .returned (.bool true) ∧ Below w.heap.size w w' := by
  have HG := Lib.hid hG
  have HC := Lib.hid hc
  have HT := Lib.hid ht
  obtain ⟨hB0, cb⟩ := one_box w c.cells 25
  obtain ⟨W0, hW0⟩ : ∃ W0, W0 = w.alloc (.cells c.cells 25) := ⟨_, rfl⟩
  have halive := Lib.hid (alive_calls _ (hG.below hB0))
  rw [← hW0] at halive hB0 cb
  have HB0 := Lib.hid hB0
  have HA0 := Lib.hid cb
  have HW0 := Lib.hid hW0
  clear hG hc ht hB0 cb hW0
  go_enter Tryd.func4, Tryd.ntmps4
  go_wp2_with fail
  rw [← HW0.out]
  refine halive.out.mono ?_; clear halive; rintro e w1 ⟨rfl, hb1⟩
  have HA1 : Hid (∀ (i : Nat) v, c.cells[i]? = some v → w1.cell? ⟨w.heap.size, i, none⟩ = some v) := fun i v h => below_cell hb1 (Nat.le_refl _) (HA0.out i v h)
  have HB1 := Lib.hid (HB0.out.trans (hb1.mono HB0.out.size))
  clear hb1 HA0 HW0 HB0
  have a0 : w1.cell? ⟨w.heap.size, 0, none⟩ = some (.string c.row) := HA1.out 0 _ rfl
  have a1 : w1.cell? ⟨w.heap.size, 1, none⟩ = some (.string c.fam) := HA1.out 1 _ rfl
  have a2 : w1.cell? ⟨w.heap.size, 2, none⟩ = some (.string c.qual) := HA1.out 2 _ rfl
  have a3 : w1.cell? ⟨w.heap.size, 3, none⟩ = some (.int .i64 c.time) := HA1.out 3 _ rfl
  have a4 : w1.cell? ⟨w.heap.size, 4, none⟩ = some (.int .i64 c.kind) := HA1.out 4 _ rfl
  have a5 : w1.cell? ⟨w.heap.size, 5, none⟩ = some (.int .i64 c.vk) := HA1.out 5 _ rfl
  have a6 : w1.cell? ⟨w.heap.size, 6, none⟩ = some (.int .i64 c.vn) := HA1.out 6 _ rfl
  have a7 : w1.cell? ⟨w.heap.size, 7, none⟩ = some (.string c.vs) := HA1.out 7 _ rfl
  have hlt := lt_of_cell a0
  go_wp2_with fail
  obtain ⟨d, hd⟩ : ∃ d : Cell, d = { c with time := t } := ⟨_, rfl⟩
  have HDF : Hid d.fits := by rw [hd]; exact ⟨HC.out.row, HC.out.fam, HC.out.qual, HC.out.vs, HT.out, HC.out.kind, HC.out.vk, HC.out.vn⟩
  have HD := Lib.hid hd
  obtain ⟨w2, hw2⟩ : ∃ w2, w2 = (w1.alloc (.cells #[.string c.row, .string c.fam, .string c.qual, .int .i64 t, .int .i64 c.kind, .int .i64 c.vk, .int .i64 c.vn, .string c.vs] 25)).alloc (.cells c.cells 25) := ⟨_, rfl⟩
  have HW2 := Lib.hid hw2
  have hsz2 : w2.heap.size = w1.heap.size + 2 := by rw [hw2]; simp
  obtain ⟨hb2, g1, _⟩ := two_boxes w1 d.cells c.cells 25 25
  have hblk : w2.heap[w1.heap.size + 1]? = some (.cells c.cells 25) := by
    have := heap_alloc_new (w1.alloc (.cells #[.string c.row, .string c.fam, .string c.qual, .int .i64 t, .int .i64 c.kind, .int .i64 c.vk, .int .i64 c.vn, .string c.vs] 25)) (.cells c.cells 25)
    rw [hw2]; simpa using this
  have ed : d.cells = #[.string c.row, .string c.fam, .string c.qual, .int .i64 t, .int .i64 c.kind, .int .i64 c.vk, .int .i64 c.vn, .string c.vs] := by rw [hd]
  rw [ed] at hb2
  have HA2 := Lib.hid (cells_below hb2 HA1.out)
  rw [← hw2] at hb2 HA2
  have HD2 : Hid (∀ (i : Nat) v, d.cells[i]? = some v → w2.cell? ⟨w1.heap.size, i, none⟩ = some v) := fun i v h => by rw [hw2]; rw [ed] at g1; rw [ed] at h; exact g1 i v h
  have hrd : RdC w2 (some ⟨w1.heap.size + 1, 0, none⟩) 1 [c] := rd_block hblk [c] rfl Cell.l_len
  have HB2 := Lib.hid (HB1.out.trans (hb2.mono HB1.out.size))
  have hlong := Lib.hid (longl_calls _ 1 1 [c] w2 hrd (by omega))
  clear hrd hblk g1 hb2 hw2 ed hd a0 a1 a2 a3 a4 a5 a6 a7 hsz2 HA1 HB1
  have HLT := Lib.hid hlt
  clear hlt
  rw [← HW2.out]
  refine hlong.out.mono ?_
  clear hlong HW2
  rintro e w3 ⟨rfl, rfl⟩
  cases hl : longC [c] 10 with
  | true =>
    go_wp2
    go_ret
    exact ⟨rfl, HB2.out⟩
  | false =>
    obtain ⟨a0, a1, a2, a3, a4, a5, a6, a7⟩ := cells_get HA2.out
    clear hl
    go_wp2_with fail
    refine (right_calls c w3 HC.out (HG.out.below HB2.out).tabs).mono ?_
    rintro e w4 ⟨rfl, hb4⟩
    have HA4 := Lib.hid (cells_below hb4 HA2.out)
    have HD4 := Lib.hid (cells_below hb4 HD2.out)
    have HB4 := Lib.hid (HB2.out.trans (hb4.mono HB2.out.size))
    clear hb4 HA2 HD2 HB2 a0 a1 a2 a3 a4 a5 a6 a7
    cases hok : c.ok with
    | false =>
      go_wp2
      go_ret
      exact ⟨rfl, HB4.out⟩
    | true =>
      clear hok
      obtain ⟨a0, a1, a2, a3, a4, a5, a6, a7⟩ := cells_get HD4.out
      go_wp2_with fail
      refine (right_calls d w4 HDF.out (HG.out.below HB4.out).tabs).mono ?_
      rintro e w5 ⟨rfl, hb5⟩
      have HA5 := Lib.hid (cells_below hb5 HA4.out)
      have HD5 := Lib.hid (cells_below hb5 HD4.out)
      have HB5 := Lib.hid (HB4.out.trans (hb5.mono HB4.out.size))
      clear hb5 HA4 HD4 HB4 a0 a1 a2 a3 a4 a5 a6 a7
      cases hok : d.ok with
      | false =>
        go_wp2
        go_ret
        exact ⟨rfl, HB5.out⟩
      | true =>
        clear hok
        obtain ⟨a0, a1, a2, a3, a4, a5, a6, a7⟩ := cells_get HA5.out
        by_cases htt : c.time = t
        · have h1 : (c.time == t) = true := by simp [htt]
          go_wp2
          go_ret
          exact ⟨rfl, HB5.out⟩
        · have h1 : (c.time == t) = false := by simp [htt]
          have k0 := later_cell a0
          have k1 := later_cell a1
          have k2 := later_cell a2
          have k3 := later_cell a3
          have k4 := later_cell a4
          have k5 := later_cell a5
          have k6 := later_cell a6
          have k7 := later_cell a7
          obtain ⟨b0, b1, b2, b3, b4, b5, b6, b7⟩ := cells_get HD5.out
          have l0 := later_cell b0
          have l1 := later_cell b1
          have l2 := later_cell b2
          have l3 := later_cell b3
          have l4 := later_cell b4
          have l5 := later_cell b5
          have l6 := later_cell b6
          have l7 := later_cell b7
          clear b0 b1 b2 b3 b4 b5 b6 b7
          have hord : Hid (∀ (x y : Cell) (n : Int) X, x.order y = n → Calls Tryd.prog 11 #[x.v, y.v] (w5.later X) fun e w'' => e = .returned (.int .i64 n) ∧ ∃ Y, w'' = w5.later Y) := fun x y n X h => calls_later (by
            have := order_calls x y (w5.later X)
            rw [h] at this
            exact this)
          have o1 : c.order c = 0 := order_self c
          by_cases hgt : t < c.time
          · have o2 : c.order d = -1 := by rw [HD.out, order_late, cmpI, if_pos hgt]
            have hgd : decide (c.time > t) = true := decide_eq_true hgt
            go_wp2
            refine wp_region_later (by kernel_rfl) (by kernel_rfl) ?_
            repeat (go_big_quiet_step ((go_at_call 11; exact hord.out _ _ _ _ (by assumption))))
            refine wpQuiet_nil ?_
            intro W1 hW1
            have hB1 : Below w5.heap.size w5 W1 := by
              obtain ⟨X, rfl⟩ := hW1
              exact later_below w5 X
            clear hW1 k0 k1 k2 k3 k4 k5 k6 k7 l0 l1 l2 l3 l4 l5 l6 l7 a0 a1 a2 a3 a4 a5 a6 a7
            go_wp2
            go_ret
            exact ⟨rfl, HB5.out.trans (hB1.mono HB5.out.size)⟩
          · have o2 : c.order d = 1 := by rw [HD.out, order_late, cmpI, if_neg hgt, if_pos (by omega)]
            have hgd : decide (c.time > t) = false := decide_eq_false hgt
            go_wp2
            refine wp_region_later (by kernel_rfl) (by kernel_rfl) ?_
            repeat (go_big_quiet_step ((go_at_call 11; exact hord.out _ _ _ _ (by assumption))))
            refine wpQuiet_nil ?_
            intro W1 hW1
            have hB1 : Below w5.heap.size w5 W1 := by
              obtain ⟨X, rfl⟩ := hW1
              exact later_below w5 X
            clear hW1 k0 k1 k2 k3 k4 k5 k6 k7 l0 l1 l2 l3 l4 l5 l6 l7 a0 a1 a2 a3 a4 a5 a6 a7
            go_wp2
            go_ret
            exact ⟨rfl, HB5.out.trans (hB1.mono HB5.out.size)⟩
end Go.Proofs.YtonghiaocpenaaaDoor
