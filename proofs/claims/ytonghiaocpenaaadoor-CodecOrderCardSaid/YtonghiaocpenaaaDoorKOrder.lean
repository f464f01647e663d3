/-
  CodecOrder, walked: whatever the two cells, it answers true and turns nothing that was there.
-/
import Derived.Test.YtonghiaocpenaaaDoorKAliveW
import Derived.Test.YtonghiaocpenaaaDoorKLawP
import Derived.Outline
namespace Go.Proofs.YtonghiaocpenaaaDoor
open Go.RowKit

abbrev cells2 (a b : Cell) : Array Value := #[.string a.row, .string a.fam, .string a.qual, .int .i64 a.time, .int .i64 a.kind, .int .i64 a.vk, .int .i64 a.vn, .string a.vs, .string b.row, .string b.fam, .string b.qual, .int .i64 b.time, .int .i64 b.kind, .int .i64 b.vk, .int .i64 b.vn, .string b.vs]

attribute [local go_sem high] eqCell
set_option maxHeartbeats 4000000 in
set_option maxRecDepth 20000 in
theorem korder_calls (a b : Cell) (w : World) (ha : a.fits) (hb : b.fits) (hG : Ground w) :
    Calls Tryd.prog 3 #[a.v, b.v] w fun e w' => e = .returned (.bool true) ∧ Below w.heap.size w w' := by
  have HG := Lib.hid hG
  have HFA := Lib.hid ha
  have HFB := Lib.hid hb
  obtain ⟨hB0, ca, cb⟩ := two_boxes w a.cells b.cells 25 25
  obtain ⟨W0, hW0⟩ : ∃ W0, W0 = (w.alloc (.cells a.cells 25)).alloc (.cells b.cells 25) := ⟨_, rfl⟩
  have halive := Lib.hid (alive_calls _ (hG.below hB0))
  rw [← hW0] at halive hB0 ca cb
  have HB0 := Lib.hid hB0
  have HA0 := Lib.hid ca
  have HC0 := Lib.hid cb
  have HW0 := Lib.hid hW0
  clear hG ha hb hB0 ca cb hW0
  go_enter Tryd.func3, Tryd.ntmps3
  go_wp2_with fail
  rw [← HW0.out]
  refine halive.out.mono ?_; clear halive; rintro e w1 ⟨rfl, hb1⟩
  have HA1 := Lib.hid (cells_below hb1 HA0.out)
  have HC1 := Lib.hid (cells_below hb1 HC0.out)
  have HB1 := Lib.hid (HB0.out.trans (hb1.mono HB0.out.size))
  clear hb1 HA0 HC0 HW0 HB0
  obtain ⟨a0, a1, a2, a3, a4, a5, a6, a7⟩ := cells_get HA1.out
  obtain ⟨c0, c1, c2, c3, c4, c5, c6, c7⟩ := cells_get HC1.out
  go_wp2_with fail
  obtain ⟨w2, hw2⟩ : ∃ w2, w2 = w1.alloc (.cells (cells2 a b) 25) := ⟨_, rfl⟩
  have hb2 : Below w1.heap.size w1 w2 := by rw [hw2]; exact (Below.refl _ _).alloc (Nat.le_refl _) _
  have hblk : w2.heap[w1.heap.size]? = some (.cells (cells2 a b) 25) := by rw [hw2, heap_alloc_new]
  have HA2 := Lib.hid (cells_below hb2 HA1.out)
  have HC2 := Lib.hid (cells_below hb2 HC1.out)
  have HB2 := Lib.hid (HB1.out.trans (hb2.mono HB1.out.size))
  have hlong := Lib.hid (longl_calls _ 2 2 [a, b] w2 (rd_block hblk [a, b] rfl Cell.l_len) (by omega))
  have HW2 := Lib.hid hw2
  clear hblk hb2 hw2 a0 a1 a2 a3 a4 a5 a6 a7 c0 c1 c2 c3 c4 c5 c6 c7 HA1 HC1 HB1
  rw [← HW2.out]
  refine hlong.out.mono ?_
  clear hlong HW2
  rintro e w3 ⟨rfl, rfl⟩
  cases hl : longC [a, b] 10 with
  | true =>
    go_wp2
    go_ret
    exact ⟨rfl, HB2.out⟩
  | false =>
    clear hl
    obtain ⟨a0, a1, a2, a3, a4, a5, a6, a7⟩ := cells_get HA2.out
    go_wp2_with fail
    refine (right_calls a w3 HFA.out (HG.out.below HB2.out).tabs).mono ?_
    rintro e w4 ⟨rfl, hb4⟩
    have HA4 := Lib.hid (cells_below hb4 HA2.out)
    have HC4 := Lib.hid (cells_below hb4 HC2.out)
    have HB4 := Lib.hid (HB2.out.trans (hb4.mono HB2.out.size))
    clear hb4 HA2 HC2 HB2 a0 a1 a2 a3 a4 a5 a6 a7
    cases hok : a.ok with
    | false =>
      go_wp2
      go_ret
      exact ⟨rfl, HB4.out⟩
    | true =>
      have HOKA := Lib.hid hok
      clear hok
      obtain ⟨c0, c1, c2, c3, c4, c5, c6, c7⟩ := cells_get HC4.out
      go_wp2_with fail
      refine (right_calls b w4 HFB.out (HG.out.below HB4.out).tabs).mono ?_
      rintro e w5 ⟨rfl, hb5⟩
      have HA5 := Lib.hid (cells_below hb5 HA4.out)
      have HC5 := Lib.hid (cells_below hb5 HC4.out)
      have HB5 := Lib.hid (HB4.out.trans (hb5.mono HB4.out.size))
      clear hb5 HA4 HC4 HB4 c0 c1 c2 c3 c4 c5 c6 c7
      cases hok : b.ok with
      | false =>
        go_wp2
        go_ret
        exact ⟨rfl, HB5.out⟩
      | true =>
        have HOKB := Lib.hid hok
        clear hok
        obtain ⟨a0, a1, a2, a3, a4, a5, a6, a7⟩ := cells_get HA5.out
        go_wp2_with fail
        refine (ckey_calls a w5 HFA.out (HG.out.below HB5.out)).mono ?_
        rintro e w6 ⟨hb6, ⟨_, A, n, cap, rfl, hown⟩ | ⟨hok, _⟩⟩
        case inr => rw [HOKA.out] at hok; cases hok
        have HA6 := Lib.hid (cells_below hb6 HA5.out)
        have HC6 := Lib.hid (cells_below hb6 HC5.out)
        have HB6 := Lib.hid (HB5.out.trans (hb6.mono HB5.out.size))
        have HO6 := Lib.hid hown
        clear hb6 HA5 HC5 HB5 a0 a1 a2 a3 a4 a5 a6 a7 hown
        obtain ⟨c0, c1, c2, c3, c4, c5, c6, c7⟩ := cells_get HC6.out
        go_wp2_with fail
        refine (ckey_calls b w6 HFB.out (HG.out.below HB6.out)).mono ?_
        rintro e w7 ⟨hb7, ⟨_, A2, m, cap2, rfl, hown2⟩ | ⟨hok, _⟩⟩
        case inr => rw [HOKB.out] at hok; cases hok
        have HA7 := Lib.hid (cells_below hb7 HA6.out)
        have HC7 := Lib.hid (cells_below hb7 HC6.out)
        have HB7 := Lib.hid (HB6.out.trans (hb7.mono HB6.out.size))
        have HX := Lib.hid ((HO6.out.below hb7).rd encB_len)
        have HY := Lib.hid (hown2.rd encB_len)
        clear hb7 HA6 HC6 HB6 c0 c1 c2 c3 c4 c5 c6 c7 hown2 HO6
        have hn : n ≤ 200 := by rw [HX.out.len]; exact key_small HOKA.out
        have hm : m ≤ 200 := by rw [HY.out.len]; exact key_small HOKB.out
        have hend : Hid (∀ k, (keyL a).take k = (keyL b).take k → (n ≤ k ∨ m ≤ k) → n = m ∧ a.order b = 0) := by
          intro k h1 h2
          rw [HX.out.len, HY.out.len] at h2 ⊢
          have := keys_end h1 h2
          refine ⟨by rw [this], ?_⟩
          rw [← cmp_key a b HOKA.out HOKB.out, this, cmpL_refl]
        have hdif : Hid (∀ k x y, (keyL a).take k = (keyL b).take k → (keyL a)[k]? = some x → (keyL b)[k]? = some y → x ≠ y → a.order b = if x < y then -1 else 1) := by
          intro k x y h1 h2 h3 h4
          rw [← cmp_key a b HOKA.out HOKB.out]
          exact cmpL_at k h1 h2 h3 h4
        obtain ⟨ks, hks⟩ : ∃ ks, ks = keyL a := ⟨_, rfl⟩
        obtain ⟨fs, hfs⟩ : ∃ fs, fs = keyL b := ⟨_, rfl⟩
        rw [← hks, ← hfs] at hend hdif
        rw [← hks] at HX
        rw [← hfs] at HY
        clear hks hfs
        go_wp2_with fail
        go_loopw [9] (fun i wr => ∃ k q : Nat, k ≤ n ∧ k ≤ m ∧ i = .int .i64 k ∧ wr = w7.drewN q ∧ Hid (ks.take k = fs.take k)) (fun i _ => n - (intOf i).toNat)
        case atStart => exact ⟨0, 0, Nat.zero_le _, Nat.zero_le _, rfl, rfl, rfl⟩
        case round =>
          obtain ⟨k, q, hk1, hk2, rfl, rfl, htk⟩ := hrel
          by_cases hlt : k < n
          · by_cases hlt2 : k < m
            · obtain ⟨x, b1, o1, hx1, rfl, _, hx8⟩ := HX.out.get k hlt
              obtain ⟨y, b2, o2, hy1, rfl, _, hy8⟩ := HY.out.get k hlt2
              have k0 : w7.cell? ⟨b1, o1 + k, none⟩ = some (.int .u8 x) := by have := hx8 0 _ rfl; simpa using this
              have l0 : w7.cell? ⟨b2, o2 + k, none⟩ = some (.int .u8 y) := by have := hy8 0 _ rfl; simpa using this
              clear hx8 hy8
              have HC1 := Lib.hid hx1
              have HD1 := Lib.hid hy1
              clear hx1 hy1
              by_cases hxy : x = y
              · have hn1 : (x != y) = false := by simp [hxy]
                have HXY := Lib.hid hxy
                clear hxy hend hdif
                go_wp2
                go_quiet (fail)
                go_wp2
                go_roundw
                case rel =>
                  refine ⟨k + 1, q + nq, by omega, by omega, by go_num, rfl, ?_⟩
                  show ks.take (k + 1) = fs.take (k + 1)
                  rw [List.take_add_one, List.take_add_one, HC1.out, HD1.out, htk.out, HXY.out]
                case measure => simp [intOf]; omega
              · have hn1 : (x != y) = true := by simp [hxy]
                have hord := hdif.out k x y htk.out HC1.out HD1.out hxy
                clear hend hdif htk hxy
                go_wp2
                go_quiet (fail)
                obtain ⟨W, hW⟩ : ∃ W, W = (w7.drewN q).drewN nq := ⟨_, rfl⟩
                have hbW := drewN_below w7 (q + nq)
                rw [← World.drewN_drewN, ← hW] at hbW
                have HAq := Lib.hid (cells_below hbW HA7.out)
                have HCq := Lib.hid (cells_below hbW HC7.out)
                have HBq := Lib.hid (HB7.out.trans (hbW.mono HB7.out.size))
                have m0 := later_cell (below_cell hbW (Nat.le_refl _) k0)
                have m1 := later_cell (below_cell hbW (Nat.le_refl _) l0)
                rw [← hW]
                clear hbW hW k0 l0
                obtain ⟨a0, a1, a2, a3, a4, a5, a6, a7⟩ := cells_get HAq.out
                obtain ⟨c0, c1, c2, c3, c4, c5, c6, c7⟩ := cells_get HCq.out
                have j0 := later_cell a0
                have j1 := later_cell a1
                have j2 := later_cell a2
                have j3 := later_cell a3
                have j4 := later_cell a4
                have j5 := later_cell a5
                have j6 := later_cell a6
                have j7 := later_cell a7
                have l0 := later_cell c0
                have l1 := later_cell c1
                have l2 := later_cell c2
                have l3 := later_cell c3
                have l4 := later_cell c4
                have l5 := later_cell c5
                have l6 := later_cell c6
                have l7 := later_cell c7
                clear a0 a1 a2 a3 a4 a5 a6 a7 c0 c1 c2 c3 c4 c5 c6 c7 HA7 HC7 HB7 HX HY
                obtain ⟨r, hr⟩ : ∃ r, r = a.order b := ⟨_, rfl⟩
                have HORD : Hid (∀ X, Calls Tryd.prog 11 #[a.v, b.v] (W.later X) fun e w'' => e = .returned (.int .i64 r) ∧ ∃ Y, w'' = W.later Y) := fun X => calls_later (by
                  have := order_calls a b (W.later X)
                  rw [← hr] at this
                  exact this)
                rw [← hr] at hord
                clear hr
                by_cases hxl : x < y
                · rw [if_pos hxl] at hord
                  subst hord
                  have hd1 : decide (x < y) = true := decide_eq_true hxl
                  go_wp2
                  refine wp_region_later (by kernel_rfl) (by kernel_rfl) ?_
                  repeat (go_big_quiet_step ((go_at_call 11; exact HORD.out _)))
                  refine wpQuiet_nil ?_
                  intro W1 hW1
                  have hB1 : Below W.heap.size W W1 := by
                    obtain ⟨X, rfl⟩ := hW1
                    exact later_below W X
                  clear hW1 j0 j1 j2 j3 j4 j5 j6 j7 l0 l1 l2 l3 l4 l5 l6 l7 m0 m1
                  go_wp2
                  go_ret
                  exact ⟨rfl, HBq.out.trans (hB1.mono HBq.out.size)⟩
                · rw [if_neg hxl] at hord
                  subst hord
                  have hd1 : decide (x < y) = false := decide_eq_false hxl
                  go_wp2
                  refine wp_region_later (by kernel_rfl) (by kernel_rfl) ?_
                  repeat (go_big_quiet_step ((go_at_call 11; exact HORD.out _)))
                  refine wpQuiet_nil ?_
                  intro W1 hW1
                  have hB1 : Below W.heap.size W W1 := by
                    obtain ⟨X, rfl⟩ := hW1
                    exact later_below W X
                  clear hW1 j0 j1 j2 j3 j4 j5 j6 j7 l0 l1 l2 l3 l4 l5 l6 l7 m0 m1
                  go_wp2
                  go_ret
                  exact ⟨rfl, HBq.out.trans (hB1.mono HBq.out.size)⟩
            · have HAq := Lib.hid (cells_below (drewN_below w7 q) HA7.out)
              have HCq := Lib.hid (cells_below (drewN_below w7 q) HC7.out)
              have HBq := Lib.hid (HB7.out.trans ((drewN_below w7 q).mono HB7.out.size))
              obtain ⟨hnm, hord⟩ := hend.out k htk.out (by omega)
              have hnm' : (n : Int) = (m : Int) := by omega
              have hnb : ((n : Int) == (m : Int)) = true := by simpa using hnm'
              have HORD : Hid (∀ W, Calls Tryd.prog 11 #[a.v, b.v] W fun e w'' => e = .returned (.int .i64 0) ∧ Below W.heap.size W w'') := fun W => by
                have := order_calls a b W
                rw [hord] at this
                exact this
              clear hend hdif htk hord HX HY HA7 HC7 HB7 hnm hnm'
              generalize w7.drewN q = W at *
              obtain ⟨a0, a1, a2, a3, a4, a5, a6, a7⟩ := cells_get HAq.out
              obtain ⟨c0, c1, c2, c3, c4, c5, c6, c7⟩ := cells_get HCq.out
              go_wp2_with fail
              refine (HORD.out W).mono ?_
              rintro e w8 ⟨rfl, hb8⟩
              clear a0 a1 a2 a3 a4 a5 a6 a7 c0 c1 c2 c3 c4 c5 c6 c7
              go_wp2
              go_ret
              exact ⟨rfl, HBq.out.trans (hb8.mono HBq.out.size)⟩
          · have HAq := Lib.hid (cells_below (drewN_below w7 q) HA7.out)
            have HCq := Lib.hid (cells_below (drewN_below w7 q) HC7.out)
            have HBq := Lib.hid (HB7.out.trans ((drewN_below w7 q).mono HB7.out.size))
            obtain ⟨hnm, hord⟩ := hend.out k htk.out (by omega)
            have hnm' : (n : Int) = (m : Int) := by omega
            have hnb : ((n : Int) == (m : Int)) = true := by simpa using hnm'
            have HORD : Hid (∀ W, Calls Tryd.prog 11 #[a.v, b.v] W fun e w'' => e = .returned (.int .i64 0) ∧ Below W.heap.size W w'') := fun W => by
              have := order_calls a b W
              rw [hord] at this
              exact this
            clear hend hdif htk hord HX HY HA7 HC7 HB7 hnm hnm'
            generalize w7.drewN q = W at *
            obtain ⟨a0, a1, a2, a3, a4, a5, a6, a7⟩ := cells_get HAq.out
            obtain ⟨c0, c1, c2, c3, c4, c5, c6, c7⟩ := cells_get HCq.out
            go_wp2_with fail
            refine (HORD.out W).mono ?_
            rintro e w8 ⟨rfl, hb8⟩
            clear a0 a1 a2 a3 a4 a5 a6 a7 c0 c1 c2 c3 c4 c5 c6 c7
            go_wp2
            go_ret
            exact ⟨rfl, HBq.out.trans (hb8.mono HBq.out.size)⟩
end Go.Proofs.YtonghiaocpenaaaDoor
