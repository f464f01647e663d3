/-
  joistref03.Key, joistref03.Encode.
-/
import Derived.Test.YtonghiaocpenaaaGreatDoorQVEnc
namespace Go.Proofs.YtonghiaocpenaaaGreatDoor
open Go.RowKit

set_option maxHeartbeats 4000000 in
set_option maxRecDepth 100000 in
theorem qkey_calls (c : Cell) (w : World) (hc : c.fits) : Calls Tryz.prog 8 #[c.v] w (BytesOr c.ok (keyL c) w) := by
  obtain ⟨hB, cb⟩ := one_box w c.cells 25
  have HR := Lib.hid (rright_calls c (w.alloc (.cells c.cells 25)) hc)
  have HB := Lib.hid hB
  have HA := Lib.hid cb
  clear cb hB
  obtain ⟨b0, b1, b2, b3, b4, b5, b6, b7⟩ : (w.alloc (.cells c.cells 25)).cell? ⟨w.heap.size, 0, none⟩ = some (.string c.row) ∧ (w.alloc (.cells c.cells 25)).cell? ⟨w.heap.size, 1, none⟩ = some (.string c.fam) ∧ (w.alloc (.cells c.cells 25)).cell? ⟨w.heap.size, 2, none⟩ = some (.string c.qual) ∧ (w.alloc (.cells c.cells 25)).cell? ⟨w.heap.size, 3, none⟩ = some (.int .i64 c.time) ∧
    (w.alloc (.cells c.cells 25)).cell? ⟨w.heap.size, 4, none⟩ = some (.int .i64 c.kind) ∧ (w.alloc (.cells c.cells 25)).cell? ⟨w.heap.size, 5, none⟩ = some (.int .i64 c.vk) ∧ (w.alloc (.cells c.cells 25)).cell? ⟨w.heap.size, 6, none⟩ = some (.int .i64 c.vn) ∧ (w.alloc (.cells c.cells 25)).cell? ⟨w.heap.size, 7, none⟩ = some (.string c.vs) := ⟨HA.out 0 _ rfl, HA.out 1 _ rfl, HA.out 2 _ rfl, HA.out 3 _ rfl, HA.out 4 _ rfl, HA.out 5 _ rfl, HA.out 6 _ rfl, HA.out 7 _ rfl⟩
  cases hok : c.ok with
  | false =>
    rw [hok] at HR
    have HOK := Lib.hid hok
    clear hok
    go_enter Tryz.func8, Tryz.ntmps8
    go_wp2_with fail
    refine HR.out.mono ?_
    rintro e w2 ⟨rfl, hb2⟩
    have HB2 := Lib.hid (HB.out.trans (hb2.mono HB.out.size))
    clear hb2 b0 b1 b2 b3 b4 b5 b6 b7
    go_wp2
    go_ret2
    exact ⟨HB2.out, .inr ⟨rfl, rfl⟩⟩
  | true =>
    rw [hok] at HR
    have HOK := Lib.hid hok
    clear hok
    go_enter Tryz.func8, Tryz.ntmps8
    go_wp2_with fail
    refine HR.out.mono ?_
    rintro e w2 ⟨rfl, hb2⟩
    have HB2 := Lib.hid (HB.out.trans (hb2.mono HB.out.size))
    have d0 := below_cell hb2 (Nat.le_refl _) b0
    have d1 := below_cell hb2 (Nat.le_refl _) b1
    have d2 := below_cell hb2 (Nat.le_refl _) b2
    have d3 := below_cell hb2 (Nat.le_refl _) b3
    have d4 := below_cell hb2 (Nat.le_refl _) b4
    have hlt := lt_of_cell d0
    clear hb2 b0 b1 b2 b3 b4 b5 b6 b7 HR HB HA
    go_wp2_with fail
    obtain ⟨hr0, hr1, hf, hq1, ht0, ht1, hk⟩ := ok_parts HOK.out
    have hf1 := (name_small hf).2
    have hkk := kind_small hk
    clear hf hk
    have es1 := Lib.hid (esc_size c.row)
    have es2 := Lib.hid (esc_size c.fam)
    have es3 := Lib.hid (esc_size c.qual)
    have hdr : Below w2.heap.size w2 w2.drew := (Below.refl _ _).drew
    have HDR := Lib.hid hdr
    clear hdr
    go_region_law (first
      | (refine step_app_bytes rfl (.tmp 10) (.tmp 13) rfl rfl (hown1.out.below hb4.out) rfl hnil2.out hrd2.out ?_ ?_ ?_; have := hown1.out.1; have := hrd2.out.len; have := es1.out; have := es2.out; omega; exact hbase2.out; intro A' cap' w5 h1 h2 h3 h4; have HO5 := Lib.hid h1; have HB5 := Lib.hid (hbw4.out.trans (h2.below (Nat.le_trans HB2.out.size (Nat.le_trans hbase1.out hb4.out.size)) (fun i hi => Nat.le_trans HB2.out.size (own_above (hown1.out.below hb4.out) i hi)))); have hb25 := Lib.hid ((HDR.out.trans (hb3.mono HDR.out.size)).trans ((hb4.out.mono (Nat.le_trans HDR.out.size hb3.size)).trans (h2.below hbase2.out (own_above (hown1.out.below hb4.out))))); have HN5 : Hid (m1 + m2 ≤ 100) := (by have := hown1.out.1; have := hrd2.out.len; have := es1.out; have := es2.out; unfold Hid; omega))
      | (go_simp; go_wp2_with (go_at_call 29; first
          | (have hqq := hown1; refine (qesc_calls _ _ ?_).mono ?_; omega; rintro e w4 ⟨A2, m2, cp2, rfl, hown2, hb4⟩; have hrd2 := Lib.hid (hown2.rd encB_len); have hnil2 := Lib.hid (qown_nil hown2); have hbase2 := Lib.hid (Nat.le_trans hbase1.out hb4.size); have hbw4 := Lib.hid (hbw3.out.trans (hb4.mono hbw3.out.size)); have hb4 := Lib.hid hb4)
          | (refine (qesc_calls _ _ ?_).mono ?_; omega; rintro e w3 ⟨A1, m1, cp1, rfl, hown1, hb3⟩; have hb23 := HDR.out.trans (hb3.mono HDR.out.size); have e0 := below_cell hb23 (Nat.le_refl _) d0; have e1 := below_cell hb23 (Nat.le_refl _) d1; have hlt3 := lt_of_cell e0; have hbw3 := Lib.hid (HB2.out.trans (hb23.mono HB2.out.size)); have hbase1 := Lib.hid hb3.size; have hown1 := Lib.hid hown1))))
    all_goals
      have f0 := below_cell hb25.out (Nat.le_refl _) d0
      have f2 := below_cell hb25.out (Nat.le_refl _) d2
      have f3 := below_cell hb25.out (Nat.le_refl _) d3
      have f4 := below_cell hb25.out (Nat.le_refl _) d4
      have hlt5 := lt_of_cell f0
      obtain ⟨B, hBe⟩ : ∃ B, B = w2.drew.heap.size := ⟨_, rfl⟩
      have HO6 := HO5
      rw [← hBe] at HO6
      have hBw : w.heap.size < B := by rw [hBe]; exact hlt
      have hB5 : B ≤ w5.heap.size := by rw [hBe]; exact hb25.out.size
      have hn5 := HN5.out
      obtain ⟨n5, hn5'⟩ : ∃ n5, n5 = m1 + m2 := ⟨_, rfl⟩
      rw [← hn5'] at HO6 hn5
      rw [← hn5']
      clear d0 d1 d2 d3 d4 e0 e1 hb3 hb4 hown1 hown2 hrd2 hnil2 hbase1 hbase2 hbw3 hbw4 hb25 HO5 hBe hlt hlt3 h1 h2 h3 h4 HN5 hn5' HDR HB2
      have HSZ5 := Lib.hid HB5.out.size
      have hv : IntKind.u64.wrap (9223372036854775807 - IntKind.u64.wrap c.time) = 9223372036854775807 - c.time := by rw [IntKind.wrap_u64, IntKind.wrap_u64]; omega
      have hkw : IntKind.u8.wrap (255 - c.kind) = 255 - c.kind := by rw [IntKind.wrap_u8]; omega
      by_cases hk4 : c.kind = 4
      · have hkb : (c.kind == 4) = true := by simp [hk4]
        have HK4 := Lib.hid hk4
        clear hk4
        have hb6 : Below w5.heap.size w5 (w5.alloc (.cells #[.int .u8 0, .int .u8 0] 5)) := (Below.refl _ _).alloc (Nat.le_refl _) _
        have HL6 := Lib.hid (own_bytes (w := w5) (base := w5.heap.size) (cs := #[.int .u8 0, .int .u8 0]) (xs := [0, 0]) rfl (Nat.le_refl _) (by decide))
        have HO7 := Lib.hid (HO6.out.below hb6)
        have HB7 := Lib.hid (HB5.out.trans (hb6.mono HB5.out.size))
        have g0 := below_cell hb6 (Nat.le_refl _) f0
        have g3 := below_cell hb6 (Nat.le_refl _) f3
        have g4 := below_cell hb6 (Nat.le_refl _) f4
        have hB7 := Nat.le_trans hB5 hb6.size
        have HNE : Hid (∀ x, A' = some ⟨x, 0, none⟩ → w.heap.size < x) := fun x hx => Nat.lt_of_lt_of_le hBw (own_above HO7.out x hx)
        clear hb6 HO6 HB5 HSZ5 hB5
        go_wp2_with (at_builtin; refine app_bytes rfl (.tmp 18) (.tmp 19) rfl rfl HO7.out rfl (fun h => by cases h) (HL6.out.rd encB_len) (by simp; omega) hB7 ?_; intro A8 cp8 w8 h1 h2 h3 h4; have f0' := h2.cell g0 (fun h => (by have := HNE.out _ h; simp at this)); have f3' := h2.cell g3 (fun h => (by have := HNE.out _ h; simp at this)); have f4' := h2.cell g4 (fun h => (by have := HNE.out _ h; simp at this)); have hlt8 := lt_of_cell f0'; have hB8 := Nat.le_trans hB7 h2.size)
        have HO8 := Lib.hid h1
        have HB8 := Lib.hid (HB7.out.trans (h2.below HB7.out.size (fun i hi => by have := own_above HO7.out i hi; omega)))
        clear HL6 HO7 HB7 g0 g3 g4 HNE hB7
        refine (qeight_calls (9223372036854775807 - c.time) _ (by omega) (by omega)).mono ?_
        rintro e w9 ⟨A9, m9, cp9, rfl, hown9, hb9⟩
        have HO9 := Lib.hid (HO8.out.below hb9)
        have HE9 := Lib.hid (hown9.rd encB_len)
        have HN9 := Lib.hid (qown_nil hown9)
        obtain rfl : m9 = 8 := hown9.1
        have HB9 := Lib.hid (HB8.out.trans (hb9.mono HB8.out.size))
        have g0 := below_cell hb9 (Nat.le_refl _) f0'
        have g4 := below_cell hb9 (Nat.le_refl _) f4'
        have hlt9 := lt_of_cell g0
        have hB9 : B ≤ w9.heap.size := Nat.le_trans hB8 hb9.size
        clear f0' f3' f4' hb9 hown9 HO8 HB8 hB8 hlt8 h1 h2 h3 h4
        go_wp2_with (at_builtin; first
          | (refine app_bytes rfl (.tmp 26) (.tmp 31) rfl rfl HO9.out rfl HN9.out HE9.out (by omega) hB9 ?_; intro A10 cp10 w10 h1 h2 h3 h4; have hNE : ∀ x, A8 = some ⟨x, 0, none⟩ → w.heap.size < x := (fun x hx => Nat.lt_of_lt_of_le hBw (own_above HO9.out x hx)); have i0 := h2.cell g0 (fun h => (by have := hNE _ h; simp at this)); have i4 := h2.cell g4 (fun h => (by have := hNE _ h; simp at this)); have hlt10 := lt_of_cell i0; have hB10 := Nat.le_trans hB9 h2.size)
          | (refine app_byte rfl (.tmp 33) (.tmp 38) rfl _ rfl h1 rfl rfl (by omega) hB10 ?_; intro g11 cp11 w11 k1 k2 k3 k4))
        go_wp2
        go_ret2
        have HB10 : Below w.heap.size w w10 := HB9.out.trans (h2.below HB9.out.size (fun i hi => by have := own_above HO9.out i hi; omega))
        refine ⟨HB10.trans (k2.below HB10.size (fun i hi => by have := own_above h1 i hi; omega)), .inl ⟨rfl, some ⟨g11, 0, none⟩, _, cp11, rfl, ?_⟩⟩
        have hk1 := k1.lower (Nat.le_of_lt hBw)
        unfold keyL
        rw [if_pos HK4.out]
        simp only [List.append_assoc] at hk1 ⊢
        exact hk1
      · have hkb : (c.kind == 4) = false := by simp [hk4]
        have HK4 := Lib.hid hk4
        clear hk4
        go_wp2_with fail
        refine (qesc_calls c.qual _ (by omega)).mono ?_
        rintro e w6 ⟨A6, m6, cp6, rfl, hown6, hb6⟩
        have HO7 := Lib.hid (HO6.out.below hb6)
        have HE7 := Lib.hid (hown6.rd encB_len)
        have HN7 := Lib.hid (qown_nil hown6)
        have hm6 : m6 ≤ 100 := by have := hown6.1; have := es3.out; omega
        have HB7 := Lib.hid (HB5.out.trans (hb6.mono HB5.out.size))
        have g0 := below_cell hb6 (Nat.le_refl _) f0
        have g3 := below_cell hb6 (Nat.le_refl _) f3
        have g4 := below_cell hb6 (Nat.le_refl _) f4
        have hB7 := Nat.le_trans hB5 hb6.size
        have HNE : Hid (∀ x, A' = some ⟨x, 0, none⟩ → w.heap.size < x) := fun x hx => Nat.lt_of_lt_of_le hBw (own_above HO7.out x hx)
        clear hb6 hown6 HO6 HB5 HSZ5 hB5 f0 f2 f3 f4
        go_wp2_with (at_builtin; refine app_bytes rfl (.tmp 21) (.tmp 24) rfl rfl HO7.out rfl HN7.out HE7.out (by omega) hB7 ?_; intro A8 cp8 w8 h1 h2 h3 h4; have f0' := h2.cell g0 (fun h => (by have := HNE.out _ h; simp at this)); have f3' := h2.cell g3 (fun h => (by have := HNE.out _ h; simp at this)); have f4' := h2.cell g4 (fun h => (by have := HNE.out _ h; simp at this)); have hlt8 := lt_of_cell f0'; have hB8 := Nat.le_trans hB7 h2.size)
        have HO8 := Lib.hid h1
        have HB8 := Lib.hid (HB7.out.trans (h2.below HB7.out.size (fun i hi => by have := own_above HO7.out i hi; omega)))
        clear HE7 HN7 HO7 HB7 g0 g3 g4 HNE hB7
        refine (qeight_calls (9223372036854775807 - c.time) _ (by omega) (by omega)).mono ?_
        rintro e w9 ⟨A9, m9, cp9, rfl, hown9, hb9⟩
        have HO9 := Lib.hid (HO8.out.below hb9)
        have HE9 := Lib.hid (hown9.rd encB_len)
        have HN9 := Lib.hid (qown_nil hown9)
        obtain rfl : m9 = 8 := hown9.1
        have HB9 := Lib.hid (HB8.out.trans (hb9.mono HB8.out.size))
        have g0 := below_cell hb9 (Nat.le_refl _) f0'
        have g4 := below_cell hb9 (Nat.le_refl _) f4'
        have hlt9 := lt_of_cell g0
        have hB9 : B ≤ w9.heap.size := Nat.le_trans hB8 hb9.size
        clear f0' f3' f4' hb9 hown9 HO8 HB8 hB8 hlt8 h1 h2 h3 h4
        go_wp2_with (at_builtin; first
          | (refine app_bytes rfl (.tmp 26) (.tmp 31) rfl rfl HO9.out rfl HN9.out HE9.out (by omega) hB9 ?_; intro A10 cp10 w10 h1 h2 h3 h4; have hNE : ∀ x, A8 = some ⟨x, 0, none⟩ → w.heap.size < x := (fun x hx => Nat.lt_of_lt_of_le hBw (own_above HO9.out x hx)); have i0 := h2.cell g0 (fun h => (by have := hNE _ h; simp at this)); have i4 := h2.cell g4 (fun h => (by have := hNE _ h; simp at this)); have hlt10 := lt_of_cell i0; have hB10 := Nat.le_trans hB9 h2.size)
          | (refine app_byte rfl (.tmp 33) (.tmp 38) rfl _ rfl h1 rfl rfl (by omega) hB10 ?_; intro g11 cp11 w11 k1 k2 k3 k4))
        go_wp2
        go_ret2
        have HB10 : Below w.heap.size w w10 := HB9.out.trans (h2.below HB9.out.size (fun i hi => by have := own_above HO9.out i hi; omega))
        refine ⟨HB10.trans (k2.below HB10.size (fun i hi => by have := own_above h1 i hi; omega)), .inl ⟨rfl, some ⟨g11, 0, none⟩, _, cp11, rfl, ?_⟩⟩
        have hk1 := k1.lower (Nat.le_of_lt hBw)
        unfold keyL
        rw [if_neg HK4.out]
        simp only [List.append_assoc] at hk1 ⊢
        exact hk1
end Go.Proofs.YtonghiaocpenaaaGreatDoor
