/-
  CodecCells, walked: whatever the two cells, it answers true and turns nothing that was there.
-/
import Derived.Test.YtonghiaocpenaaaGreatDoorQEnc
import Derived.Test.YtonghiaocpenaaaGreatDoorJROrder
import Derived.Test.YtonghiaocpenaaaGreatDoorKAliveW
import Derived.Outline
namespace Go.Proofs.YtonghiaocpenaaaGreatDoor
open Go.RowKit

abbrev cells2q (a b : Cell) : Array Value := #[.string a.row, .string a.fam, .string a.qual, .int .i64 a.time, .int .i64 a.kind, .int .i64 a.vk, .int .i64 a.vn, .string a.vs, .string b.row, .string b.fam, .string b.qual, .int .i64 b.time, .int .i64 b.kind, .int .i64 b.vk, .int .i64 b.vn, .string b.vs]
/-- What BytesOr gives, read. -/
theorem bytesOr_rd {ok : Bool} {xs : List Int} {w w' : World} {e : Ending} (h : BytesOr ok xs w e w') : ∃ A n cap, e = .returned (.tuple #[.slice A n cap, .bool ok]) ∧ RdB w' A n (if ok then xs else []) ∧ Below w.heap.size w w' := by
  obtain ⟨hb, ⟨rfl, A, n, cap, rfl, hown⟩ | ⟨rfl, rfl⟩⟩ := h
  · exact ⟨A, n, cap, rfl, hown.rd encB_len, hb⟩
  · exact ⟨none, 0, 0, rfl, Rd.nil _ _ _ _, hb⟩
theorem key_len_ok {c : Cell} : (if c.ok then keyL c else []).length ≤ 200 := by
  split
  · rename_i h; exact key_small h
  · exact Nat.zero_le _
theorem enc_len_ok {c : Cell} : (if c.ok then encL c else []).length ≤ 1000 := by
  split
  · rename_i h
    unfold encL
    have h1 := key_small h
    rw [List.length_append]
    split
    · rename_i hk
      have := plain_len c.vk c.vn c.vs (val_of_put h hk)
      unfold valL
      rw [List.length_cons]
      omega
    · simp; omega
  · exact Nat.zero_le _

/-- SameBytes answers true of two rows, however the memory grew. -/
structure SB (w : World) (A : Option Addr) (n p : Nat) (B : Option Addr) (m q : Nat) : Prop where
  out : ∀ X, Calls Tryz.prog 15 #[.slice A n p, .slice B m q] (w.later X) fun e w'' => e = .returned (.bool true) ∧ ∃ Y, w'' = w.later Y
theorem SB.use {w : World} {A : Option Addr} {n p : Nat} {B : Option Addr} {m q : Nat} (h : SB w A n p B m q) (X : World) : Calls Tryz.prog 15 #[.slice A n p, .slice B m q] (w.later X) fun e w'' => e = .returned (.bool true) ∧ ∃ Y, w'' = w.later Y := h.out X
theorem SB.of {w : World} {A : Option Addr} {n p : Nat} {B : Option Addr} {m q : Nat} {xs : List Int} (h1 : RdB w A n xs) (h2 : RdB w B m xs) (hn : n ≤ 10000) (hm : m ≤ 10000) : SB w A n p B m q := ⟨fun X => calls_later_drew (by
  have := sameb_calls A B n m p q xs xs (w.later X) (h1.below (later_below w X)) (h2.below (later_below w X)) (by omega) (by omega)
  rw [decide_eq_true rfl] at this
  exact this)⟩

attribute [local go_sem high] eqCell
set_option maxHeartbeats 2000000 in
set_option maxRecDepth 20000 in
theorem cellsl_calls (a b : Cell) (w : World) (ha : a.fits) (hb : b.fits) (hG : Ground w) :
    Calls Tryz.prog 3 #[a.v, b.v] w fun e w' => e = .returned (.bool true) ∧ Below w.heap.size w w' := by
  have HG := Lib.hid hG
  have HFA := Lib.hid ha
  have HFB := Lib.hid hb
  obtain ⟨hB0, ca, cb⟩ := two_boxes w a.cells b.cells 25 25
  obtain ⟨W0, hW0⟩ : ∃ W0, W0 = (w.alloc (.cells a.cells 25)).alloc (.cells b.cells 25) := ⟨_, rfl⟩
  have halive := Lib.hid (alive_calls _ (hG.below hB0))
  rw [← hW0] at halive hB0 ca cb
  have HB0 := Lib.hid hB0
  have HA0 := Lib.hid ca
  have HC0 := Lib.hid cb
  have HW0 := Lib.hid hW0
  clear hG ha hb hB0 ca cb hW0
  go_enter Tryz.func3, Tryz.ntmps3
  go_wp2_with fail
  rw [← HW0.out]
  refine halive.out.mono ?_; clear halive; rintro e w1 ⟨rfl, hb1⟩
  have HA1 := Lib.hid (cells_below hb1 HA0.out)
  have HC1 := Lib.hid (cells_below hb1 HC0.out)
  have HB1 := Lib.hid (HB0.out.trans (hb1.mono HB0.out.size))
  clear hb1 HA0 HC0 HW0 HB0
  obtain ⟨a0, a1, a2, a3, a4, a5, a6, a7⟩ := cells_get HA1.out
  obtain ⟨c0, c1, c2, c3, c4, c5, c6, c7⟩ := cells_get HC1.out
  go_wp2_with fail
  obtain ⟨w2, hw2⟩ : ∃ w2, w2 = w1.alloc (.cells (cells2q a b) 25) := ⟨_, rfl⟩
  have hb2 : Below w1.heap.size w1 w2 := by rw [hw2]; exact (Below.refl _ _).alloc (Nat.le_refl _) _
  have hblk : w2.heap[w1.heap.size]? = some (.cells (cells2q a b) 25) := by rw [hw2, heap_alloc_new]
  have HA2 := Lib.hid (cells_below hb2 HA1.out)
  have HC2 := Lib.hid (cells_below hb2 HC1.out)
  have HB2 := Lib.hid (HB1.out.trans (hb2.mono HB1.out.size))
  have hlong := Lib.hid (longl_calls _ 2 2 [a, b] w2 (rd_block hblk [a, b] rfl Cell.l_len) (by omega))
  have HW2 := Lib.hid hw2
  clear hblk hb2 hw2 a0 a1 a2 a3 a4 a5 a6 a7 c0 c1 c2 c3 c4 c5 c6 c7 HA1 HC1 HB1
  rw [← HW2.out]
  refine hlong.out.mono ?_
  clear hlong HW2
  rintro e w3 ⟨rfl, rfl⟩
  cases hl : longC [a, b] 10 with
  | true =>
    go_wp2
    go_ret
    exact ⟨rfl, HB2.out⟩
  | false =>
    have HSM : Hid (a.small ∧ b.small) := ⟨⟨HFA.out.row, HFA.out.fam, HFA.out.qual⟩, ⟨HFB.out.row, HFB.out.fam, HFB.out.qual⟩⟩
    clear hl
    obtain ⟨a0, a1, a2, a3, a4, a5, a6, a7⟩ := cells_get HA2.out
    go_wp2_with fail
    refine (ckey_calls a w3 HFA.out (HG.out.below HB2.out)).mono ?_
    intro e w4 h4
    obtain ⟨A4, n4, p4, rfl, hr4, hb4⟩ := bytesOr_rd h4
    have HX4 := Lib.hid hr4
    have HA4 := Lib.hid (cells_below hb4 HA2.out)
    have HC4 := Lib.hid (cells_below hb4 HC2.out)
    have HB4 := Lib.hid (HB2.out.trans (hb4.mono HB2.out.size))
    clear h4 hr4 hb4 HA2 HC2 HB2 a0 a1 a2 a3 a4 a5 a6 a7
    obtain ⟨a0, a1, a2, a3, a4, a5, a6, a7⟩ := cells_get HA4.out
    go_wp2_with fail
    refine (qkey_calls a w4 HFA.out).mono ?_
    intro e w5 h5
    obtain ⟨A5, n5, p5, rfl, hr5, hb5⟩ := bytesOr_rd h5
    have HX5 := Lib.hid (HX4.out.below hb5)
    have HY5 := Lib.hid hr5
    have HA5 := Lib.hid (cells_below hb5 HA4.out)
    have HC5 := Lib.hid (cells_below hb5 HC4.out)
    have HB5 := Lib.hid (HB4.out.trans (hb5.mono HB4.out.size))
    clear h5 hr5 hb5 HA4 HC4 HB4 HX4 a0 a1 a2 a3 a4 a5 a6 a7
    obtain ⟨a0, a1, a2, a3, a4, a5, a6, a7⟩ := cells_get HA5.out
    go_wp2_with fail
    refine (cenc_calls a w5 HFA.out (HG.out.below HB5.out)).mono ?_
    intro e w6 h6
    obtain ⟨A6, n6, p6, rfl, hr6, hb6⟩ := bytesOr_rd h6
    have HX6 := Lib.hid (HX5.out.below hb6)
    have HY6 := Lib.hid (HY5.out.below hb6)
    have HZ6 := Lib.hid hr6
    have HA6 := Lib.hid (cells_below hb6 HA5.out)
    have HC6 := Lib.hid (cells_below hb6 HC5.out)
    have HB6 := Lib.hid (HB5.out.trans (hb6.mono HB5.out.size))
    clear h6 hr6 hb6 HA5 HC5 HB5 HX5 HY5 a0 a1 a2 a3 a4 a5 a6 a7
    obtain ⟨a0, a1, a2, a3, a4, a5, a6, a7⟩ := cells_get HA6.out
    go_wp2_with fail
    refine (qenc_calls a w6 HFA.out).mono ?_
    intro e w7 h7
    obtain ⟨A7, n7, p7, rfl, hr7, hb7⟩ := bytesOr_rd h7
    have HX7 := Lib.hid (HX6.out.below hb7)
    have HY7 := Lib.hid (HY6.out.below hb7)
    have HZ7 := Lib.hid (HZ6.out.below hb7)
    have HU7 := Lib.hid hr7
    have HA7 := Lib.hid (cells_below hb7 HA6.out)
    have HC7 := Lib.hid (cells_below hb7 HC6.out)
    have HB7 := Lib.hid (HB6.out.trans (hb7.mono HB6.out.size))
    clear h7 hr7 hb7 HA6 HC6 HB6 HX6 HY6 HZ6 a0 a1 a2 a3 a4 a5 a6 a7
    have hn4 : n4 ≤ 200 := by rw [HX7.out.len]; exact key_len_ok
    have hn5 : n5 ≤ 200 := by rw [HY7.out.len]; exact key_len_ok
    have hn6 : n6 ≤ 1000 := by rw [HZ7.out.len]; exact enc_len_ok
    have hn7 : n7 ≤ 1000 := by rw [HU7.out.len]; exact enc_len_ok
    obtain ⟨a0, a1, a2, a3, a4, a5, a6, a7⟩ := cells_get HA7.out
    obtain ⟨c0, c1, c2, c3, c4, c5, c6, c7⟩ := cells_get HC7.out
    have j0 := later_cell a0
    have j1 := later_cell a1
    have j2 := later_cell a2
    have j3 := later_cell a3
    have j4 := later_cell a4
    have j5 := later_cell a5
    have j6 := later_cell a6
    have j7 := later_cell a7
    have l0 := later_cell c0
    have l1 := later_cell c1
    have l2 := later_cell c2
    have l3 := later_cell c3
    have l4 := later_cell c4
    have l5 := later_cell c5
    have l6 := later_cell c6
    have l7 := later_cell c7
    clear a0 a1 a2 a3 a4 a5 a6 a7 c0 c1 c2 c3 c4 c5 c6 c7
    have s1 : SB w7 A4 n4 p4 A5 n5 p5 := SB.of HX7.out HY7.out (by omega) (by omega)
    have s2 : SB w7 A6 n6 p6 A7 n7 p7 := SB.of HZ7.out HU7.out (by omega) (by omega)
    have HR1 : Hid (∀ X, Calls Tryz.prog 11 #[a.v] (w7.later X) fun e w'' => e = .returned (.bool a.ok) ∧ ∃ Y, w'' = w7.later Y) := fun X => calls_later (right_calls a (w7.later X) HFA.out ((HG.out.below HB7.out).below (later_below w7 X)).tabs)
    have HR2 : Hid (∀ X, Calls Tryz.prog 12 #[a.v] (w7.later X) fun e w'' => e = .returned (.bool a.ok) ∧ ∃ Y, w'' = w7.later Y) := fun X => calls_later (rright_calls a (w7.later X) HFA.out)
    have HO1 : Hid (∀ X, Calls Tryz.prog 13 #[a.v, b.v] (w7.later X) fun e w'' => e = .returned (.int .i64 (a.order b)) ∧ ∃ Y, w'' = w7.later Y) := fun X => calls_later (order_calls a b (w7.later X))
    have HO2 : Hid (∀ X, Calls Tryz.prog 14 #[a.v, b.v] (w7.later X) fun e w'' => e = .returned (.int .i64 (a.order b)) ∧ ∃ Y, w'' = w7.later Y) := fun X => calls_later (rorder_calls a b (w7.later X) HSM.out.1 HSM.out.2)
    clear HX7 HY7 HZ7 HU7 HA7 HC7
    obtain ⟨ok, hok⟩ : ∃ ok, ok = a.ok := ⟨_, rfl⟩
    rw [← hok] at HR1 HR2
    rw [← hok]
    obtain ⟨o, ho⟩ : ∃ o, o = a.order b := ⟨_, rfl⟩
    rw [← ho] at HO1 HO2
    clear hok ho
    go_wp2
    refine wp_region_later (by kernel_rfl) (by kernel_rfl) ?_
    repeat (go_big_quiet_step ((first | (go_at_call 11; exact HR1.out _) | (go_at_call 12; exact HR2.out _) | (go_at_call 13; exact HO1.out _) | (go_at_call 14; exact HO2.out _) | (go_at_call 15; exact SB.use (by assumption) _))))
    refine wpQuiet_nil ?_
    intro W1 hW1
    have hB1 : Below w7.heap.size w7 W1 := by
      obtain ⟨X, rfl⟩ := hW1
      exact later_below w7 X
    clear hW1 j0 j1 j2 j3 j4 j5 j6 j7 l0 l1 l2 l3 l4 l5 l6 l7 s1 s2
    go_wp2
    go_ret
    exact ⟨rfl, HB7.out.trans (hB1.mono HB7.out.size)⟩
end Go.Proofs.YtonghiaocpenaaaGreatDoor
