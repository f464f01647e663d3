/-
  joistref03.Encode.
-/
import Derived.Test.YtonghiaocpenaaaGreatDoorQKey
namespace Go.Proofs.YtonghiaocpenaaaGreatDoor
open Go.RowKit

set_option maxHeartbeats 2000000 in
set_option maxRecDepth 20000 in
theorem qenc_calls (c : Cell) (w : World) (hc : c.fits) : Calls Tryz.prog 10 #[c.v] w (BytesOr c.ok (encL c) w) := by
  obtain ⟨hB, cb⟩ := one_box w c.cells 25
  have HR := Lib.hid (qkey_calls c (w.alloc (.cells c.cells 25)) hc)
  have b0 : (w.alloc (.cells c.cells 25)).cell? ⟨w.heap.size, 0, none⟩ = some (.string c.row) := cb 0 _ rfl
  have b1 : (w.alloc (.cells c.cells 25)).cell? ⟨w.heap.size, 1, none⟩ = some (.string c.fam) := cb 1 _ rfl
  have b2 : (w.alloc (.cells c.cells 25)).cell? ⟨w.heap.size, 2, none⟩ = some (.string c.qual) := cb 2 _ rfl
  have b3 : (w.alloc (.cells c.cells 25)).cell? ⟨w.heap.size, 3, none⟩ = some (.int .i64 c.time) := cb 3 _ rfl
  have b4 : (w.alloc (.cells c.cells 25)).cell? ⟨w.heap.size, 4, none⟩ = some (.int .i64 c.kind) := cb 4 _ rfl
  have b5 : (w.alloc (.cells c.cells 25)).cell? ⟨w.heap.size, 5, none⟩ = some (.int .i64 c.vk) := cb 5 _ rfl
  have b6 : (w.alloc (.cells c.cells 25)).cell? ⟨w.heap.size, 6, none⟩ = some (.int .i64 c.vn) := cb 6 _ rfl
  have b7 : (w.alloc (.cells c.cells 25)).cell? ⟨w.heap.size, 7, none⟩ = some (.string c.vs) := cb 7 _ rfl
  have HB := Lib.hid hB
  have HC := Lib.hid hc
  clear cb hB hc
  go_enter Tryz.func10, Tryz.ntmps10
  go_wp2_with fail
  refine HR.out.mono ?_
  rintro e w2 ⟨hb2, ⟨hok, A, n, cap, rfl, hown⟩ | ⟨hok, rfl⟩⟩
  · have HB2 := Lib.hid (HB.out.trans (hb2.mono HB.out.size))
    have HSZ2 := Lib.hid hb2.size
    have HOK := Lib.hid hok
    have HOWN := Lib.hid hown
    have c4 := below_cell hb2 (Nat.le_refl _) b4
    have c5 := below_cell hb2 (Nat.le_refl _) b5
    have c6 := below_cell hb2 (Nat.le_refl _) b6
    have c7 := below_cell hb2 (Nat.le_refl _) b7
    have hlt := lt_of_cell c4
    clear hb2 b0 b1 b2 b3 b4 b5 b6 b7 hown
    by_cases hk : c.kind = 1
    · have HVO := Lib.hid (val_of_put hok hk)
      have HV := Lib.hid (qvenc_calls c.vk c.vn c.vs w2 HC.out.vn)
      have HK := Lib.hid hk
      have HKS := Lib.hid (key_small hok)
      rw [hk] at c4
      clear hok hk
      go_wp2_with fail
      refine HV.out.mono ?_
      rintro e w3 ⟨hb3, ⟨hvo, A3, m, cap3, rfl, hown3⟩ | ⟨hvo, rfl⟩⟩
      · have HOWN3 := Lib.hid hown3
        have HOWN2 := Lib.hid (HOWN.out.below hb3)
        have HB3 := Lib.hid (HB2.out.trans (hb3.mono HB2.out.size))
        have hln := HOWN2.out.1
        have hlm := HOWN3.out.1
        have hvl : Hid (m ≤ 1000) := by
          have := plain_len c.vk c.vn c.vs HVO.out
          unfold Hid
          rw [hlm]
          show (plainL _ _ _).length + 1 ≤ 1000
          omega
        have hnl : Hid (n ≤ 1000) := by
          have := HKS.out
          unfold Hid; rw [hln]; omega
        have hnil : Hid (A3 = none → cap3 = 0) := qown_nil hown3
        have hbase := Lib.hid (Nat.le_trans HSZ2.out hb3.size)
        clear hb3 hown3 hln hlm hvo
        go_wp2_with (at_builtin; refine app_bytes rfl (.tmp 25) (.tmp 26) rfl rfl HOWN2.out rfl hnil.out (HOWN3.out.rd encB_len) (by have := hnl.out; have := hvl.out; omega) hbase.out ?_; intro A' cap' w4 h1 h2 h3 h4)
        go_wp2
        go_ret2
        refine ⟨HB3.out.trans ((h2.below hbase.out (own_above HOWN2.out)).mono HB.out.size), .inl ⟨HOK.out, A', _, cap', rfl, ?_⟩⟩
        unfold encL
        rw [if_pos HK.out]
        exact h1.lower HB.out.size
      · rw [HVO.out] at hvo; cases hvo
    · have HK := Lib.hid hk
      have hkb : (c.kind == 1) = false := by simp [hk]
      clear hok hk
      go_wp2
      go_ret2
      refine ⟨HB2.out, .inl ⟨HOK.out, A, n, cap, rfl, ?_⟩⟩
      unfold encL
      rw [if_neg HK.out, List.append_nil]
      exact HOWN.out.lower HB.out.size
  · have HB2 := Lib.hid (HB.out.trans (hb2.mono HB.out.size))
    have HOK := Lib.hid hok
    clear hb2 b0 b1 b2 b3 b4 b5 b6 b7 hok
    go_wp2
    go_ret2
    exact ⟨HB2.out, .inr ⟨HOK.out, rfl⟩⟩
end Go.Proofs.YtonghiaocpenaaaGreatDoor
