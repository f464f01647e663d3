/-
  The law package's alive (codec), walked.
-/
import Derived.Test.YtonghiaocpenaaaGreatDoorKAlive
import Derived.Outline
namespace Go.Proofs.YtonghiaocpenaaaGreatDoor
open Go.RowKit

attribute [local go_sem high] eqCell
set_option maxHeartbeats 8000000 in
set_option maxRecDepth 20000 in
theorem alive_calls (w : World) (hG : Ground w) : Calls Tryz.prog 5 #[] w fun e w' => e = .returned (.bool true) ∧ Below w.heap.size w w' := by
  have HG := Lib.hid hG
  clear hG
  obtain ⟨hB0, ca, cb⟩ := two_boxes w (alC 5).cells (alC 4).cells 25 25
  obtain ⟨W0, hW0⟩ : ∃ W0, W0 = (w.alloc (.cells (alC 5).cells 25)).alloc (.cells (alC 4).cells 25) := ⟨_, rfl⟩
  rw [← hW0] at hB0 ca cb
  have HB0 := Lib.hid hB0
  have HA0 := Lib.hid ca
  have HC0 := Lib.hid cb
  have HW0 := Lib.hid hW0
  clear hB0 ca cb hW0
  go_enter Tryz.func5, Tryz.ntmps5
  go_wp2_with fail
  have hcall := cenc_calls (alC 5) W0 (alC_fits 5 (by unfold isInt; decide)) (HG.out.below HB0.out)
  rw [HW0.out] at hcall
  refine hcall.mono ?_
  clear hcall
  rintro e w1 ⟨hb1, ⟨hok, A, n, cap, rfl, hown⟩ | ⟨hok, rfl⟩⟩
  case inr => rw [alC_ok] at hok; cases hok
  clear hok
  replace hb1 : Below W0.heap.size W0 w1 := by rw [HW0.out]; exact hb1
  have HA1 : Hid (∀ (i : Nat) v, (alC 5).cells[i]? = some v → w1.cell? ⟨w.heap.size, i, none⟩ = some v) := fun i v h => below_cell hb1 (Nat.le_refl _) (HA0.out i v h)
  have HC1 : Hid (∀ (i : Nat) v, (alC 4).cells[i]? = some v → w1.cell? ⟨w.heap.size + 1, i, none⟩ = some v) := fun i v h => below_cell hb1 (Nat.le_refl _) (HC0.out i v h)
  have HB1 := Lib.hid (HB0.out.trans (hb1.mono HB0.out.size))
  obtain ⟨hc1, hc2, hc3⟩ := own_caps hown
  have hn : n ≤ 100 := by rw [hown.1]; exact al_len
  have hrd := Lib.hid (hown.rd encB_len)
  have Hc2 := Lib.hid hc2
  have Hc3 := Lib.hid hc3
  clear hb1 HA0 HC0 HW0 HB0 hown hc2 hc3
  go_wp2_with fail
  refine (dec_calls A n cap _ w1 hrd.out al_bytes Hc3.out (by omega) hc1 Hc2.out (HG.out.below HB1.out)).mono ?_
  rintro e w2 ⟨hb2, ⟨c, hc, rfl⟩ | ⟨hc, rfl⟩⟩
  case inr => rw [al_back] at hc; cases hc
  rw [al_back] at hc
  obtain rfl : alC 5 = c := Option.some.inj hc
  have HA2 : Hid (∀ (i : Nat) v, (alC 5).cells[i]? = some v → w2.cell? ⟨w.heap.size, i, none⟩ = some v) := fun i v h => below_cell hb2 (Nat.le_refl _) (HA1.out i v h)
  have HC2 : Hid (∀ (i : Nat) v, (alC 4).cells[i]? = some v → w2.cell? ⟨w.heap.size + 1, i, none⟩ = some v) := fun i v h => below_cell hb2 (Nat.le_refl _) (HC1.out i v h)
  have HB2 := Lib.hid (HB1.out.trans (hb2.mono HB1.out.size))
  clear hb2 HA1 HC1 HB1 hc hrd Hc2 Hc3 hc1
  go_wp2_with fail
  obtain ⟨w3, hw3⟩ : ∃ w3, w3 = w2.alloc (.cells (alC 5).cells 25) := ⟨_, rfl⟩
  have hb3 : Below w2.heap.size w2 w3 := by rw [hw3]; exact (Below.refl _ _).alloc (Nat.le_refl _) _
  have hs3 : w3.heap.size = w2.heap.size + 1 := by rw [hw3]; simp
  have HA3 : Hid (∀ (i : Nat) v, (alC 5).cells[i]? = some v → w3.cell? ⟨w.heap.size, i, none⟩ = some v) := fun i v h => below_cell hb3 (Nat.le_refl _) (HA2.out i v h)
  have HC3 : Hid (∀ (i : Nat) v, (alC 4).cells[i]? = some v → w3.cell? ⟨w.heap.size + 1, i, none⟩ = some v) := fun i v h => below_cell hb3 (Nat.le_refl _) (HC2.out i v h)
  have HD3 : Hid (∀ (i : Nat) v, (alC 5).cells[i]? = some v → w3.cell? ⟨w2.heap.size, i, none⟩ = some v) := fun i v h => by rw [hw3, World.cell?_alloc_new]; exact h
  have HB3 := Lib.hid (HB2.out.trans (hb3.mono HB2.out.size))
  have hown4 : OwnB (w3.alloc (.cells #[.int .u8 172, .int .u8 2, .int .u8 7] 5)) w3.heap.size (some ⟨w3.heap.size, 0, none⟩) 3 3 [172, 2, 7] := own_bytes (xs := [172, 2, 7]) rfl (Nat.le_refl _) (by decide)
  have hb4 : Below w3.heap.size w3 (w3.alloc (.cells #[.int .u8 172, .int .u8 2, .int .u8 7] 5)) := (Below.refl _ _).alloc (Nat.le_refl _) _
  have hby : Bytes [172, 2, 7] := fun x hx => by simp at hx; omega
  have hcall := take_calls w3.heap.size 0 3 3 [172, 2, 7] _ (hown4.rd encB_len) hby (by omega) (by omega) (by unfold maxLen; omega)
  rw [hs3, hw3] at hcall
  refine hcall.mono ?_
  clear hcall
  rintro e w5 ⟨hb5, ⟨ht, rfl⟩ | ⟨v, ys, g, cp, ht, _, rfl, _⟩⟩
  · rw [al_take] at ht; cases ht
  rw [al_take] at ht
  injection ht with ht
  injection ht with e1 e2
  subst e1; subst e2
  rw [← hw3] at hb5
  have hb35 : Below w3.heap.size w3 w5 := hb4.trans (hb5.mono hb4.size)
  have HA5 : Hid (∀ (i : Nat) v, (alC 5).cells[i]? = some v → w5.cell? ⟨w.heap.size, i, none⟩ = some v) := fun i v h => below_cell hb35 (Nat.le_refl _) (HA3.out i v h)
  have HC5 : Hid (∀ (i : Nat) v, (alC 4).cells[i]? = some v → w5.cell? ⟨w.heap.size + 1, i, none⟩ = some v) := fun i v h => below_cell hb35 (Nat.le_refl _) (HC3.out i v h)
  have HD5 : Hid (∀ (i : Nat) v, (alC 5).cells[i]? = some v → w5.cell? ⟨w2.heap.size, i, none⟩ = some v) := fun i v h => below_cell hb35 (Nat.le_refl _) (HD3.out i v h)
  have HB5 := Lib.hid (HB3.out.trans (hb35.mono HB3.out.size))
  have hlen7 : ([7] : List Int).length = 1 := rfl
  clear hb5 hb35 hb4 hb3 hown4 hby HA3 HC3 HD3 HB3 HA2 HC2 HB2 hw3 hs3
  have a0 : w5.cell? ⟨w.heap.size, 0, none⟩ = some (.string (alC 5).row) := HA5.out 0 _ rfl
  have a1 : w5.cell? ⟨w.heap.size, 1, none⟩ = some (.string (alC 5).fam) := HA5.out 1 _ rfl
  have a2 : w5.cell? ⟨w.heap.size, 2, none⟩ = some (.string (alC 5).qual) := HA5.out 2 _ rfl
  have a3 : w5.cell? ⟨w.heap.size, 3, none⟩ = some (.int .i64 (alC 5).time) := HA5.out 3 _ rfl
  have a4 : w5.cell? ⟨w.heap.size, 4, none⟩ = some (.int .i64 (alC 5).kind) := HA5.out 4 _ rfl
  have a5 : w5.cell? ⟨w.heap.size, 5, none⟩ = some (.int .i64 (alC 5).vk) := HA5.out 5 _ rfl
  have a6 : w5.cell? ⟨w.heap.size, 6, none⟩ = some (.int .i64 (alC 5).vn) := HA5.out 6 _ rfl
  have a7 : w5.cell? ⟨w.heap.size, 7, none⟩ = some (.string (alC 5).vs) := HA5.out 7 _ rfl
  have c0 : w5.cell? ⟨w.heap.size + 1, 0, none⟩ = some (.string (alC 4).row) := HC5.out 0 _ rfl
  have c1 : w5.cell? ⟨w.heap.size + 1, 1, none⟩ = some (.string (alC 4).fam) := HC5.out 1 _ rfl
  have c2 : w5.cell? ⟨w.heap.size + 1, 2, none⟩ = some (.string (alC 4).qual) := HC5.out 2 _ rfl
  have c3 : w5.cell? ⟨w.heap.size + 1, 3, none⟩ = some (.int .i64 (alC 4).time) := HC5.out 3 _ rfl
  have c4 : w5.cell? ⟨w.heap.size + 1, 4, none⟩ = some (.int .i64 (alC 4).kind) := HC5.out 4 _ rfl
  have c5 : w5.cell? ⟨w.heap.size + 1, 5, none⟩ = some (.int .i64 (alC 4).vk) := HC5.out 5 _ rfl
  have c6 : w5.cell? ⟨w.heap.size + 1, 6, none⟩ = some (.int .i64 (alC 4).vn) := HC5.out 6 _ rfl
  have c7 : w5.cell? ⟨w.heap.size + 1, 7, none⟩ = some (.string (alC 4).vs) := HC5.out 7 _ rfl
  have d0 : w5.cell? ⟨w2.heap.size, 0, none⟩ = some (.string (alC 5).row) := HD5.out 0 _ rfl
  have d1 : w5.cell? ⟨w2.heap.size, 1, none⟩ = some (.string (alC 5).fam) := HD5.out 1 _ rfl
  have d2 : w5.cell? ⟨w2.heap.size, 2, none⟩ = some (.string (alC 5).qual) := HD5.out 2 _ rfl
  have d3 : w5.cell? ⟨w2.heap.size, 3, none⟩ = some (.int .i64 (alC 5).time) := HD5.out 3 _ rfl
  have d4 : w5.cell? ⟨w2.heap.size, 4, none⟩ = some (.int .i64 (alC 5).kind) := HD5.out 4 _ rfl
  have d5 : w5.cell? ⟨w2.heap.size, 5, none⟩ = some (.int .i64 (alC 5).vk) := HD5.out 5 _ rfl
  have d6 : w5.cell? ⟨w2.heap.size, 6, none⟩ = some (.int .i64 (alC 5).vn) := HD5.out 6 _ rfl
  have d7 : w5.cell? ⟨w2.heap.size, 7, none⟩ = some (.string (alC 5).vs) := HD5.out 7 _ rfl
  go_wp2_with fail
  refine (order_calls (alC 5) (alC 4) w5).mono ?_
  rw [al_order]
  rintro e w6 ⟨rfl, hb6⟩
  have HA6 : Hid (∀ (i : Nat) v, (alC 5).cells[i]? = some v → w6.cell? ⟨w.heap.size, i, none⟩ = some v) := fun i v h => below_cell hb6 (Nat.le_refl _) (HA5.out i v h)
  have HB6 := Lib.hid (HB5.out.trans (hb6.mono HB5.out.size))
  clear hb6 a0 a1 a2 a3 a4 a5 a6 a7 c0 c1 c2 c3 c4 c5 c6 c7 d0 d1 d2 d3 d4 d5 d6 d7 HA5 HC5 HD5 HB5
  go_wp2_with fail
  refine (num_calls 300 w6 (by omega)).mono ?_
  rw [al_num]
  rintro e w7 ⟨A7, n7, cap7, rfl, hown7, hb7⟩
  have hb8 : Below w7.heap.size w7 (w7.alloc (.cells #[.int .u8 172, .int .u8 2] 5)) := (Below.refl _ _).alloc (Nat.le_refl _) _
  have hown8 : OwnB (w7.alloc (.cells #[.int .u8 172, .int .u8 2] 5)) w7.heap.size (some ⟨w7.heap.size, 0, none⟩) 2 2 [172, 2] := own_bytes (xs := [172, 2]) rfl (Nat.le_refl _) (by decide)
  have hn7 : n7 = 2 := hown7.1
  have hsame := sameb_calls A7 _ n7 2 cap7 2 [172, 2] [172, 2] _ ((hown7.below hb8).rd encB_len) (hown8.rd encB_len) (by omega) (by omega)
  rw [decide_eq_true rfl] at hsame
  replace hsame := Lib.hid hsame
  have hb68 := hb7.trans (hb8.mono hb7.size)
  have HA8 : Hid (∀ (i : Nat) v, (alC 5).cells[i]? = some v → (w7.alloc (.cells #[.int .u8 172, .int .u8 2] 5)).cell? ⟨w.heap.size, i, none⟩ = some v) := fun i v h => below_cell hb68 (Nat.le_refl _) (HA6.out i v h)
  have HB8 := Lib.hid (HB6.out.trans (hb68.mono HB6.out.size))
  clear hb8 hb7 hb68 hown7 hown8 hn7 HA6 HB6
  go_wp2_with fail
  refine hsame.out.mono ?_
  rintro e w9 ⟨rfl, q, hw9⟩
  have hb9 := drewN_below (w7.alloc (.cells #[.int .u8 172, .int .u8 2] 5)) q
  rw [← hw9] at hb9
  have HA9 : Hid (∀ (i : Nat) v, (alC 5).cells[i]? = some v → w9.cell? ⟨w.heap.size, i, none⟩ = some v) := fun i v h => below_cell hb9 (Nat.le_refl _) (HA8.out i v h)
  have HB9 := Lib.hid (HB8.out.trans (hb9.mono HB8.out.size))
  clear hb9 hw9 hsame HA8 HB8
  have a0 : w9.cell? ⟨w.heap.size, 0, none⟩ = some (.string (alC 5).row) := HA9.out 0 _ rfl
  have a1 : w9.cell? ⟨w.heap.size, 1, none⟩ = some (.string (alC 5).fam) := HA9.out 1 _ rfl
  have a2 : w9.cell? ⟨w.heap.size, 2, none⟩ = some (.string (alC 5).qual) := HA9.out 2 _ rfl
  have a3 : w9.cell? ⟨w.heap.size, 3, none⟩ = some (.int .i64 (alC 5).time) := HA9.out 3 _ rfl
  have a4 : w9.cell? ⟨w.heap.size, 4, none⟩ = some (.int .i64 (alC 5).kind) := HA9.out 4 _ rfl
  have a5 : w9.cell? ⟨w.heap.size, 5, none⟩ = some (.int .i64 (alC 5).vk) := HA9.out 5 _ rfl
  have a6 : w9.cell? ⟨w.heap.size, 6, none⟩ = some (.int .i64 (alC 5).vn) := HA9.out 6 _ rfl
  have a7 : w9.cell? ⟨w.heap.size, 7, none⟩ = some (.string (alC 5).vs) := HA9.out 7 _ rfl
  go_wp2_with fail
  refine (right_calls (alC 5) w9 (alC_fits 5 (by unfold isInt; decide)) (HG.out.below HB9.out).tabs).mono ?_
  rw [alC_ok]
  rintro e w10 ⟨rfl, hb10⟩
  have HB10 := Lib.hid (HB9.out.trans (hb10.mono HB9.out.size))
  clear hb10 a0 a1 a2 a3 a4 a5 a6 a7 HA9 HB9
  go_wp2_with fail
  refine (right_calls ⟨⟨#[]⟩, ⟨#[]⟩, ⟨#[]⟩, 0, 0, 0, 0, ⟨#[]⟩⟩ w10 ⟨show (0 : Nat) ≤ _ by decide, show (0 : Nat) ≤ _ by decide, show (0 : Nat) ≤ _ by decide, show (0 : Nat) ≤ _ by decide, show isInt 0 by unfold isInt; decide, show isInt 0 by unfold isInt; decide, show isInt 0 by unfold isInt; decide, show isInt 0 by unfold isInt; decide⟩ (HG.out.below HB10.out).tabs).mono ?_
  rw [zero_ok]
  rintro e w11 ⟨rfl, hb11⟩
  have HB11 := Lib.hid (HB10.out.trans (hb11.mono HB10.out.size))
  clear hb11 HB10
  go_wp2
  go_ret
  exact ⟨rfl, HB11.out⟩
end Go.Proofs.YtonghiaocpenaaaGreatDoor
