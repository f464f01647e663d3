/-
  CodecBack, walked: whatever the cell, the number, the list and the cut, it answers true and turns nothing that was there.
-/
import Derived.Test.YtonghiaocpenaaaDoorKBack
namespace Go.Proofs.YtonghiaocpenaaaDoor
open Go.RowKit

attribute [local go_sem high] eqCell
set_option maxHeartbeats 8000000 in
set_option maxRecDepth 20000 in
theorem back_calls (c : Cell) (num : Int) (A : Option Addr) (ln lc : Nat) (rows : List BRow) (cut : Int) (w : World) (hc : c.fits) (hnum : isInt num) (hl : Rd 1 BRow.l w A ln rows ∧ (∀ r ∈ rows, (BRowOk w r ∧ Bytes r.xs) ∧ r.n ≤ 140737488355328) ∧ ln ≤ 140737488355328) (hcut : isInt cut) (hG : Ground w) :
    Calls Tryd.prog 6 #[c.v, .int .i64 num, .slice A ln lc, .int .i64 cut] w fun e w' => e = .returned (.bool true) ∧ Below w.heap.size w w' := by
  obtain ⟨hl, hrows, hln⟩ := hl
  have HG := Lib.hid hG
  have HFC := Lib.hid hc
  have HROWS := Lib.hid hrows
  have HNUM := Lib.hid hnum
  have HCUT := Lib.hid hcut
  obtain ⟨hB0, ca⟩ := one_box w c.cells 25
  obtain ⟨W0, hW0⟩ : ∃ W0, W0 = w.alloc (.cells c.cells 25) := ⟨_, rfl⟩
  have halive := Lib.hid (alive_calls _ (hG.below hB0))
  rw [← hW0] at halive hB0 ca
  have HB0 := Lib.hid hB0
  have HA0 := Lib.hid ca
  have HW0 := Lib.hid hW0
  have HL := Lib.hid hl
  clear hG hc hl hrows hB0 ca hW0 hnum hcut
  go_enter Tryd.func6, Tryd.ntmps6
  go_wp2_with fail
  rw [← HW0.out]
  refine halive.out.mono ?_; clear halive; rintro e w1 ⟨rfl, hb1⟩
  have HA1 := Lib.hid (cells_below hb1 HA0.out)
  have HB1 := Lib.hid (HB0.out.trans (hb1.mono HB0.out.size))
  clear hb1 HA0 HW0 HB0
  obtain ⟨a0, a1, a2, a3, a4, a5, a6, a7⟩ := cells_get HA1.out
  go_wp2_with fail
  obtain ⟨w2, hw2⟩ : ∃ w2, w2 = w1.alloc (.cells c.cells 25) := ⟨_, rfl⟩
  have hb2 : Below w1.heap.size w1 w2 := by rw [hw2]; exact (Below.refl _ _).alloc (Nat.le_refl _) _
  have hblk : w2.heap[w1.heap.size]? = some (.cells c.cells 25) := by rw [hw2, heap_alloc_new]
  have HA2 := Lib.hid (cells_below hb2 HA1.out)
  have HB2 := Lib.hid (HB1.out.trans (hb2.mono HB1.out.size))
  have hlong := Lib.hid (longl_calls _ 1 1 [c] w2 (rd_block hblk [c] rfl Cell.l_len) (by omega))
  have HW2 := Lib.hid hw2
  clear hblk hb2 hw2 a0 a1 a2 a3 a4 a5 a6 a7 HA1 HB1
  rw [← HW2.out]
  refine hlong.out.mono ?_
  clear hlong HW2
  rintro e w3 ⟨rfl, rfl⟩
  cases hl : longC [c] 10 with
  | true =>
    go_wp2
    go_ret
    exact ⟨rfl, HB2.out⟩
  | false =>
    clear hl
    go_wp2_with fail
    refine (weigh_calls A ln lc rows w3 (HL.out.below HB2.out) (fun r hr => (HROWS.out r hr).2) hln).mono ?_
    rintro e w4 ⟨t, rfl, hb4, ht⟩
    have HA4 := Lib.hid (cells_below hb4 HA2.out)
    have HB4 := Lib.hid (HB2.out.trans (hb4.mono HB2.out.size))
    clear hb4 HA2 HB2
    by_cases htt : 2000 < t
    · have htt' : (2000 : Int) < (t : Int) := by omega
      go_wp2
      go_ret
      exact ⟨rfl, HB4.out⟩
    have htt' : ¬ (2000 : Int) < (t : Int) := by omega
    have HWE : Hid (weighL rows ≤ 2000) := by unfold Hid; rcases ht with h | h <;> omega
    clear ht
    have hln2 : ln ≤ 2000 := by have := weigh_len rows; have := HWE.out; rw [HL.out.len]; omega
    obtain ⟨a0, a1, a2, a3, a4, a5, a6, a7⟩ := cells_get HA4.out
    go_wp2_with fail
    refine (cenc_calls c w4 HFC.out (HG.out.below HB4.out)).mono ?_
    rintro e w5 ⟨hb5, ⟨hok, A5, n5, c5, rfl, hown5⟩ | ⟨hok, rfl⟩⟩
    · have HA5 := Lib.hid (cells_below hb5 HA4.out)
      have HB5 := Lib.hid (HB4.out.trans (hb5.mono HB4.out.size))
      have HO5 := Lib.hid hown5
      have HOK := Lib.hid hok
      clear hb5 HA4 HB4 a0 a1 a2 a3 a4 a5 a6 a7 hown5 hok
      obtain ⟨a0, a1, a2, a3, a4, a5, a6, a7⟩ := cells_get HA5.out
      go_wp2_with fail
      refine (right_calls c w5 HFC.out (HG.out.below HB5.out).tabs).mono ?_
      rw [HOK.out]
      rintro e w6 ⟨rfl, hb6⟩
      have HA6 := Lib.hid (cells_below hb6 HA5.out)
      have HB6 := Lib.hid (HB5.out.trans (hb6.mono HB5.out.size))
      have HO6 := Lib.hid (HO5.out.below hb6)
      clear hb6 HA5 HB5 HO5 a0 a1 a2 a3 a4 a5 a6 a7
      have hn5 : n5 ≤ 1000 := by rw [HO6.out.1]; exact enc_small HOK.out
      have HBY := Lib.hid (enc_bytes HOK.out HFC.out.vn)
      have HBK := Lib.hid (cell_back c HOK.out HFC.out.vn)
      obtain ⟨hc1, hc2, hc3⟩ := own_caps HO6.out
      have Hc2 := Lib.hid hc2
      have Hc3 := Lib.hid hc3
      have HRD := Lib.hid (HO6.out.rd encB_len)
      clear hc2 hc3
      go_wp2_with fail
      refine (dec_calls A5 n5 c5 _ w6 HRD.out HBY.out Hc3.out (by omega) hc1 Hc2.out (HG.out.below HB6.out)).mono ?_
      rintro e w7 ⟨hb7, ⟨d, hd, rfl⟩ | ⟨hd, _⟩⟩
      case inr => rw [HBK.out] at hd; cases hd
      rw [HBK.out] at hd
      obtain rfl : c = d := Option.some.inj hd
      have HA7 := Lib.hid (cells_below hb7 HA6.out)
      have HB7 := Lib.hid (HB6.out.trans (hb7.mono HB6.out.size))
      have HO7 := Lib.hid (HO6.out.below hb7)
      clear hb7 HA6 HB6 HO6 HRD hd HBK
      obtain ⟨a0, a1, a2, a3, a4, a5, a6, a7⟩ := cells_get HA7.out
      have hlt := lt_of_cell a0
      have hW8 := one_box w7 c.cells 25
      obtain ⟨w8, hw8⟩ : ∃ w8, w8 = w7.alloc (.cells c.cells 25) := ⟨_, rfl⟩
      have HW8 := Lib.hid hw8
      have hb8 : Below w7.heap.size w7 w8 := by rw [hw8]; exact (Below.refl _ _).alloc (Nat.le_refl _) _
      have HB := Lib.hid (HB7.out.trans (hb8.mono HB7.out.size))
      have HO8 := Lib.hid (HO7.out.below hb8)
      clear hb8 hw8 hW8
      by_cases hq0 : 0 ≤ cut
      · obtain ⟨cu, hcu⟩ := Int.eq_ofNat_of_zero_le hq0
        by_cases hq1 : cut < (n5 : Int)
        · have hcn : cu < n5 := by omega
          have hne : (encL c).drop cu ≠ [] := fun h => by
            have h3 := congrArg List.length h
            rw [List.length_drop, ← HO8.out.1] at h3
            simp at h3
            omega
          have HPC : Hid (cellV ((encL c).take cu) = none) := cell_cut HOK.out HFC.out.vn (List.take_append_drop cu (encL c)) hne
          have HT6 := Lib.hid (rd_take (HO8.out.rd encB_len) (Nat.le_of_lt hcn))
          have HBT6 : Hid (Bytes ((encL c).take cu)) := fun x hx => HBY.out x (List.mem_of_mem_take hx)
          obtain ⟨_, _, hcc⟩ := own_caps HO8.out
          have hpc := Lib.hid (dec_calls A5 cu c5 _ w8 HT6.out HBT6.out hcc (by omega) (by omega) Hc2.out (HG.out.below HB.out))
          obtain ⟨g5, hg5⟩ : ∃ g5, A5 = some ⟨g5, 0, none⟩ := by
            rcases HO8.out.shape with ⟨_, h⟩ | ⟨g, h, _⟩
            · rw [h] at hne; simp at hne
            · exact ⟨g, h⟩
          subst hg5
          subst hcu
          clear HT6 HBT6 HO8 HO7 hcc hne
          have HQ0 := Lib.hid hq0
          have HQ1 := Lib.hid hq1
          go_wp2_with fail
          rw [← HW8.out]
          refine hpc.out.mono ?_
          rintro e w9 ⟨hb9, ⟨d, hd, _⟩ | ⟨_, rfl⟩⟩
          · rw [HPC.out] at hd; cases hd
          have HB9 := Lib.hid (HB.out.trans (hb9.mono HB.out.size))
          clear hb9 HB hpc HPC a0 a1 a2 a3 a4 a5 a6 a7 HA7 HB7 HW8
          have HB := HB9
          clear HB9
          go_wp2_with fail
          refine (numx_calls num w9 HNUM.out).mono ?_
          rintro e x1 ⟨B1, m1, d1, rfl, hox1, hbx1⟩
          have HBX1 := Lib.hid (HB.out.trans (hbx1.mono HB.out.size))
          have HOX1 := Lib.hid hox1
          have hm1 : m1 ≤ 9 := by rw [HOX1.out.1]; exact numV_len num HNUM.out
          clear hox1 hbx1 HB
          go_wp2_with fail
          refine (copyb_calls B1 m1 d1 _ x1 (HOX1.out.rd encB_len) (own_nil HOX1.out) (by omega)).mono ?_
          rintro e x2 ⟨g2, d2, rfl, hox2, hbx2⟩
          have HBX2 := Lib.hid (HBX1.out.trans (hbx2.mono HBX1.out.size))
          have HOX2 := Lib.hid hox2
          have HSX2 := Lib.hid hbx2.size
          have HSX1 := Lib.hid HBX1.out.size
          have HM1 : Hid (m1 = (numV num).length) := HOX1.out.1
          clear hox2 hbx2 HOX1 HBX1
          go_wp2_with (at_builtin; refine app_byte rfl (.tmp 72) (.tmp 73) rfl 9 rfl HOX2.out rfl rfl (by omega) HSX2.out ?_; intro g3 d3 x3 h1 h2 h3 h4)
          have HOX3 := Lib.hid h1
          have HBX3 := Lib.hid (HBX2.out.trans (h2.below HBX2.out.size (fun i hi => by have := own_above HOX2.out i hi; have := HSX1.out; omega)))
          obtain ⟨q1, q2, _⟩ := own_caps h1
          have Q2 := Lib.hid q2
          clear h1 h2 h3 h4 HOX2 HSX2 HSX1 HBX2 q2
          refine (take_calls g3 0 (m1 + 1) d3 _ x3 (HOX3.out.rd encB_len) (bytes_app (numV_bytes num) (bytes_one (by omega) (by omega))) (by omega) q1 Q2.out).mono ?_
          rintro e x4 ⟨hbx4, htk⟩
          have HBX4 := Lib.hid (HBX3.out.trans (hbx4.mono HBX3.out.size))
          clear hbx4 HOX3 HBX3 Q2 q1
          have HL4 := Lib.hid (HL.out.below HBX4.out)
          have HRW4 : Hid (∀ r ∈ rows, BRowOk x4 r) := fun r hr => (HROWS.out r hr).1.1.below HBX4.out
          by_cases hneg : num < 0
          · have hm0 : m1 = 0 := by rw [HM1.out, numV_neg hneg]; rfl
            subst hm0
            rw [numV_neg hneg] at htk
            have ht9 : takeV 0 0 ([] ++ [9]) = some (9, []) := by kernel_rfl
            rcases htk with ⟨ht, _⟩ | ⟨v, ys, g4, d4, ht, _, rfl, _⟩
            · rw [ht9] at ht; cases ht
            rw [ht9] at ht
            injection ht with ht; injection ht with e1 e2
            subst e1; subst e2
            have hge : ¬ (0 : Int) ≤ num := by omega
            have hlen0 : ([] : List Int).length = 0 := rfl
            clear HM1
            go_wp2_with fail
            refine (list_calls A ln lc rows x4 HL4.out HRW4.out (by have := HWE.out; omega)).mono ?_
            rintro e y1 ⟨A6, n6, d6, rfl, hoy1, hby1⟩
            have HBY1 := Lib.hid (HBX4.out.trans (hby1.mono HBX4.out.size))
            have HOY1 := Lib.hid hoy1
            have HRY1 : Hid (∀ r ∈ rows, BRowOk y1 r) := fun r hr => (HRW4.out r hr).below hby1
            have HLY1 := Lib.hid (HL4.out.below hby1)
            have HBYL : Hid (Bytes (listL (rows.map BRow.xs))) := list_bytes _ (fun b hb => by
              obtain ⟨r, hr, rfl⟩ := List.mem_map.1 hb
              exact (HROWS.out r hr).1.2)
            have HPL : Hid (partsV (listL (rows.map BRow.xs)) = some (rows.map BRow.xs)) := parts_list _ (by rw [List.length_map]; have := weigh_len rows; have := HWE.out; omega) (fun b hb => by have := weigh_all HRY1.out HWE.out hb; omega)
            have hn6 : n6 ≤ 10000 := by
              have h1 := hoy1.1
              unfold listL at h1
              rw [List.length_append] at h1
              have h2 := vlq_len2 (rows.map BRow.xs).length
              rw [List.length_map] at h2 h1
              have h3 := rowsL_len rows HRY1.out
              have h4 := weigh_len rows
              have h5 := HWE.out
              omega
            obtain ⟨g6, rfl⟩ : ∃ g6, A6 = some ⟨g6, 0, none⟩ := by
              rcases hoy1.shape with ⟨_, h⟩ | ⟨g, h, _⟩
              · exfalso
                have hp := HPL.out
                rw [h] at hp
                exact absurd hp (by simp [partsV, takeV])
              · exact ⟨g, h⟩
            obtain ⟨r1, r2, _⟩ := own_caps hoy1
            have R2 := Lib.hid r2
            clear hoy1 hby1 HBX4 HL4 HRW4 r2
            go_wp2_with fail
            refine (parts_calls g6 0 n6 d6 _ y1 (HOY1.out.rd encB_len) HBYL.out (by omega) r1 R2.out).mono ?_
            rintro e y2 ⟨hby2, ⟨hp, _⟩ | ⟨rows2, A7', n7, d7, hp, rfl, hrd7, hok7, hn7⟩⟩
            · rw [HPL.out] at hp; cases hp
            rw [HPL.out] at hp
            have HEQ : Hid (rows.map BRow.xs = rows2.map BRow.xs) := Option.some.inj hp
            have HBY2 := Lib.hid (HBY1.out.trans (hby2.mono HBY1.out.size))
            have HLY2 := Lib.hid (HLY1.out.below hby2)
            have HRY2 : Hid (∀ r ∈ rows, BRowOk y2 r) := fun r hr => (HRY1.out r hr).below hby2
            have HOY2 := Lib.hid (HOY1.out.below hby2)
            have hsm := samel_calls A7' A n7 ln d7 lc rows2 rows y2 hrd7 HLY2.out (fun r hr => ⟨hok7 r hr, by
                have h1 : r.xs ∈ rows.map BRow.xs := by rw [HEQ.out]; exact List.mem_map.2 ⟨r, hr, rfl⟩
                have := weigh_all HRY2.out HWE.out h1
                rw [(hok7 r hr).rd.len]; omega⟩) (fun r hr => ⟨HRY2.out r hr, by have := weigh_mem hr; have := HWE.out; omega⟩) hn7 (by omega)
            rw [decide_eq_true HEQ.out.symm] at hsm
            have HSM := Lib.hid hsm
            clear hsm hby2 hp hrd7 hok7 HBY1 HLY1 HRY1 HOY1 HEQ
            go_wp2_with fail
            refine HSM.out.mono ?_
            rintro e y3 ⟨rfl, hby3⟩
            have HBY3 := Lib.hid (HBY2.out.trans (hby3.mono HBY2.out.size))
            have HOY3 := Lib.hid (HOY2.out.below hby3)
            clear hby3 HSM HBY2 HLY2 HRY2 HOY2
            by_cases hc0 : (0 : Int) ≤ (cu : Int)
            · have hcz : True := trivial
              by_cases hc1 : (cu : Int) < (n6 : Int)
              · have hcn : cu < n6 := by omega
                have HPC : Hid (partsV ((listL (rows.map BRow.xs)).take cu) = none) := by
                  cases hq : partsV ((listL (rows.map BRow.xs)).take cu) with
                  | none => rfl
                  | some u =>
                    exfalso
                    have h1 := HPL.out
                    rw [← List.take_append_drop cu (listL (rows.map BRow.xs))] at h1
                    have h2 := parts_cut hq h1
                    have h3 := congrArg List.length h2
                    rw [List.length_drop, ← HOY3.out.1] at h3
                    simp at h3
                    omega
                have HT6 := Lib.hid (rd_take (HOY3.out.rd encB_len) (Nat.le_of_lt hcn))
                have HBT6 : Hid (Bytes ((listL (rows.map BRow.xs)).take cu)) := fun x hx => HBYL.out x (List.mem_of_mem_take hx)
                have hpc := Lib.hid (parts_calls g6 0 cu d6 _ y3 HT6.out HBT6.out (by omega) (by omega) R2.out)
                clear hcz
                clear HT6 HBT6 HOY3
                go_wp2_with fail
                refine hpc.out.mono ?_
                rintro e y4 ⟨hby4, ⟨_, rfl⟩ | ⟨rows3, A8, n8, d8, hp, _⟩⟩
                · have HBY4 := Lib.hid (HBY3.out.trans (hby4.mono HBY3.out.size))
                  clear hby4
                  go_wp2
                  go_ret
                  exact ⟨rfl, HBY4.out⟩
                · rw [HPC.out] at hp; cases hp
              · clear hcz
                go_wp2
                go_ret
                exact ⟨rfl, HBY3.out⟩
            · first
              | (exfalso; omega)
              | (go_wp2
                 go_ret
                 exact ⟨rfl, HBY3.out⟩)
          · have hv := numV_take hneg HNUM.out
            rcases htk with ⟨ht, _⟩ | ⟨v, ys, g4, d4, ht, _, rfl, _⟩
            · rw [hv] at ht; cases ht
            rw [hv] at ht
            injection ht with ht; injection ht with e1 e2
            subst e1; subst e2
            have hge : (0 : Int) ≤ num := by omega
            have hnn : ((num.toNat : Nat) : Int) = num := by omega
            have hlen1 : ([9] : List Int).length = 1 := rfl
            clear HM1 hv
            rw [hnn]
            go_wp2_with fail
            refine (list_calls A ln lc rows x4 HL4.out HRW4.out (by have := HWE.out; omega)).mono ?_
            rintro e y1 ⟨A6, n6, d6, rfl, hoy1, hby1⟩
            have HBY1 := Lib.hid (HBX4.out.trans (hby1.mono HBX4.out.size))
            have HOY1 := Lib.hid hoy1
            have HRY1 : Hid (∀ r ∈ rows, BRowOk y1 r) := fun r hr => (HRW4.out r hr).below hby1
            have HLY1 := Lib.hid (HL4.out.below hby1)
            have HBYL : Hid (Bytes (listL (rows.map BRow.xs))) := list_bytes _ (fun b hb => by
              obtain ⟨r, hr, rfl⟩ := List.mem_map.1 hb
              exact (HROWS.out r hr).1.2)
            have HPL : Hid (partsV (listL (rows.map BRow.xs)) = some (rows.map BRow.xs)) := parts_list _ (by rw [List.length_map]; have := weigh_len rows; have := HWE.out; omega) (fun b hb => by have := weigh_all HRY1.out HWE.out hb; omega)
            have hn6 : n6 ≤ 10000 := by
              have h1 := hoy1.1
              unfold listL at h1
              rw [List.length_append] at h1
              have h2 := vlq_len2 (rows.map BRow.xs).length
              rw [List.length_map] at h2 h1
              have h3 := rowsL_len rows HRY1.out
              have h4 := weigh_len rows
              have h5 := HWE.out
              omega
            obtain ⟨g6, rfl⟩ : ∃ g6, A6 = some ⟨g6, 0, none⟩ := by
              rcases hoy1.shape with ⟨_, h⟩ | ⟨g, h, _⟩
              · exfalso
                have hp := HPL.out
                rw [h] at hp
                exact absurd hp (by simp [partsV, takeV])
              · exact ⟨g, h⟩
            obtain ⟨r1, r2, _⟩ := own_caps hoy1
            have R2 := Lib.hid r2
            clear hoy1 hby1 HBX4 HL4 HRW4 r2
            go_wp2_with fail
            refine (parts_calls g6 0 n6 d6 _ y1 (HOY1.out.rd encB_len) HBYL.out (by omega) r1 R2.out).mono ?_
            rintro e y2 ⟨hby2, ⟨hp, _⟩ | ⟨rows2, A7', n7, d7, hp, rfl, hrd7, hok7, hn7⟩⟩
            · rw [HPL.out] at hp; cases hp
            rw [HPL.out] at hp
            have HEQ : Hid (rows.map BRow.xs = rows2.map BRow.xs) := Option.some.inj hp
            have HBY2 := Lib.hid (HBY1.out.trans (hby2.mono HBY1.out.size))
            have HLY2 := Lib.hid (HLY1.out.below hby2)
            have HRY2 : Hid (∀ r ∈ rows, BRowOk y2 r) := fun r hr => (HRY1.out r hr).below hby2
            have HOY2 := Lib.hid (HOY1.out.below hby2)
            have hsm := samel_calls A7' A n7 ln d7 lc rows2 rows y2 hrd7 HLY2.out (fun r hr => ⟨hok7 r hr, by
                have h1 : r.xs ∈ rows.map BRow.xs := by rw [HEQ.out]; exact List.mem_map.2 ⟨r, hr, rfl⟩
                have := weigh_all HRY2.out HWE.out h1
                rw [(hok7 r hr).rd.len]; omega⟩) (fun r hr => ⟨HRY2.out r hr, by have := weigh_mem hr; have := HWE.out; omega⟩) hn7 (by omega)
            rw [decide_eq_true HEQ.out.symm] at hsm
            have HSM := Lib.hid hsm
            clear hsm hby2 hp hrd7 hok7 HBY1 HLY1 HRY1 HOY1 HEQ
            go_wp2_with fail
            refine HSM.out.mono ?_
            rintro e y3 ⟨rfl, hby3⟩
            have HBY3 := Lib.hid (HBY2.out.trans (hby3.mono HBY2.out.size))
            have HOY3 := Lib.hid (HOY2.out.below hby3)
            clear hby3 HSM HBY2 HLY2 HRY2 HOY2
            by_cases hc0 : (0 : Int) ≤ (cu : Int)
            · have hcz : True := trivial
              by_cases hc1 : (cu : Int) < (n6 : Int)
              · have hcn : cu < n6 := by omega
                have HPC : Hid (partsV ((listL (rows.map BRow.xs)).take cu) = none) := by
                  cases hq : partsV ((listL (rows.map BRow.xs)).take cu) with
                  | none => rfl
                  | some u =>
                    exfalso
                    have h1 := HPL.out
                    rw [← List.take_append_drop cu (listL (rows.map BRow.xs))] at h1
                    have h2 := parts_cut hq h1
                    have h3 := congrArg List.length h2
                    rw [List.length_drop, ← HOY3.out.1] at h3
                    simp at h3
                    omega
                have HT6 := Lib.hid (rd_take (HOY3.out.rd encB_len) (Nat.le_of_lt hcn))
                have HBT6 : Hid (Bytes ((listL (rows.map BRow.xs)).take cu)) := fun x hx => HBYL.out x (List.mem_of_mem_take hx)
                have hpc := Lib.hid (parts_calls g6 0 cu d6 _ y3 HT6.out HBT6.out (by omega) (by omega) R2.out)
                clear hcz
                clear HT6 HBT6 HOY3
                go_wp2_with fail
                refine hpc.out.mono ?_
                rintro e y4 ⟨hby4, ⟨_, rfl⟩ | ⟨rows3, A8, n8, d8, hp, _⟩⟩
                · have HBY4 := Lib.hid (HBY3.out.trans (hby4.mono HBY3.out.size))
                  clear hby4
                  go_wp2
                  go_ret
                  exact ⟨rfl, HBY4.out⟩
                · rw [HPC.out] at hp; cases hp
              · clear hcz
                go_wp2
                go_ret
                exact ⟨rfl, HBY3.out⟩
            · first
              | (exfalso; omega)
              | (go_wp2
                 go_ret
                 exact ⟨rfl, HBY3.out⟩)
        · clear hcu HO7 HO8
          go_wp2_with fail
          rw [← HW8.out]
          clear a0 a1 a2 a3 a4 a5 a6 a7 HA7 HB7 HW8
          refine (numx_calls num w8 HNUM.out).mono ?_
          rintro e x1 ⟨B1, m1, d1, rfl, hox1, hbx1⟩
          have HBX1 := Lib.hid (HB.out.trans (hbx1.mono HB.out.size))
          have HOX1 := Lib.hid hox1
          have hm1 : m1 ≤ 9 := by rw [HOX1.out.1]; exact numV_len num HNUM.out
          clear hox1 hbx1 HB
          go_wp2_with fail
          refine (copyb_calls B1 m1 d1 _ x1 (HOX1.out.rd encB_len) (own_nil HOX1.out) (by omega)).mono ?_
          rintro e x2 ⟨g2, d2, rfl, hox2, hbx2⟩
          have HBX2 := Lib.hid (HBX1.out.trans (hbx2.mono HBX1.out.size))
          have HOX2 := Lib.hid hox2
          have HSX2 := Lib.hid hbx2.size
          have HSX1 := Lib.hid HBX1.out.size
          have HM1 : Hid (m1 = (numV num).length) := HOX1.out.1
          clear hox2 hbx2 HOX1 HBX1
          go_wp2_with (at_builtin; refine app_byte rfl (.tmp 72) (.tmp 73) rfl 9 rfl HOX2.out rfl rfl (by omega) HSX2.out ?_; intro g3 d3 x3 h1 h2 h3 h4)
          have HOX3 := Lib.hid h1
          have HBX3 := Lib.hid (HBX2.out.trans (h2.below HBX2.out.size (fun i hi => by have := own_above HOX2.out i hi; have := HSX1.out; omega)))
          obtain ⟨q1, q2, _⟩ := own_caps h1
          have Q2 := Lib.hid q2
          clear h1 h2 h3 h4 HOX2 HSX2 HSX1 HBX2 q2
          refine (take_calls g3 0 (m1 + 1) d3 _ x3 (HOX3.out.rd encB_len) (bytes_app (numV_bytes num) (bytes_one (by omega) (by omega))) (by omega) q1 Q2.out).mono ?_
          rintro e x4 ⟨hbx4, htk⟩
          have HBX4 := Lib.hid (HBX3.out.trans (hbx4.mono HBX3.out.size))
          clear hbx4 HOX3 HBX3 Q2 q1
          have HL4 := Lib.hid (HL.out.below HBX4.out)
          have HRW4 : Hid (∀ r ∈ rows, BRowOk x4 r) := fun r hr => (HROWS.out r hr).1.1.below HBX4.out
          by_cases hneg : num < 0
          · have hm0 : m1 = 0 := by rw [HM1.out, numV_neg hneg]; rfl
            subst hm0
            rw [numV_neg hneg] at htk
            have ht9 : takeV 0 0 ([] ++ [9]) = some (9, []) := by kernel_rfl
            rcases htk with ⟨ht, _⟩ | ⟨v, ys, g4, d4, ht, _, rfl, _⟩
            · rw [ht9] at ht; cases ht
            rw [ht9] at ht
            injection ht with ht; injection ht with e1 e2
            subst e1; subst e2
            have hge : ¬ (0 : Int) ≤ num := by omega
            have hlen0 : ([] : List Int).length = 0 := rfl
            clear HM1
            go_wp2_with fail
            refine (list_calls A ln lc rows x4 HL4.out HRW4.out (by have := HWE.out; omega)).mono ?_
            rintro e y1 ⟨A6, n6, d6, rfl, hoy1, hby1⟩
            have HBY1 := Lib.hid (HBX4.out.trans (hby1.mono HBX4.out.size))
            have HOY1 := Lib.hid hoy1
            have HRY1 : Hid (∀ r ∈ rows, BRowOk y1 r) := fun r hr => (HRW4.out r hr).below hby1
            have HLY1 := Lib.hid (HL4.out.below hby1)
            have HBYL : Hid (Bytes (listL (rows.map BRow.xs))) := list_bytes _ (fun b hb => by
              obtain ⟨r, hr, rfl⟩ := List.mem_map.1 hb
              exact (HROWS.out r hr).1.2)
            have HPL : Hid (partsV (listL (rows.map BRow.xs)) = some (rows.map BRow.xs)) := parts_list _ (by rw [List.length_map]; have := weigh_len rows; have := HWE.out; omega) (fun b hb => by have := weigh_all HRY1.out HWE.out hb; omega)
            have hn6 : n6 ≤ 10000 := by
              have h1 := hoy1.1
              unfold listL at h1
              rw [List.length_append] at h1
              have h2 := vlq_len2 (rows.map BRow.xs).length
              rw [List.length_map] at h2 h1
              have h3 := rowsL_len rows HRY1.out
              have h4 := weigh_len rows
              have h5 := HWE.out
              omega
            obtain ⟨g6, rfl⟩ : ∃ g6, A6 = some ⟨g6, 0, none⟩ := by
              rcases hoy1.shape with ⟨_, h⟩ | ⟨g, h, _⟩
              · exfalso
                have hp := HPL.out
                rw [h] at hp
                exact absurd hp (by simp [partsV, takeV])
              · exact ⟨g, h⟩
            obtain ⟨r1, r2, _⟩ := own_caps hoy1
            have R2 := Lib.hid r2
            clear hoy1 hby1 HBX4 HL4 HRW4 r2
            go_wp2_with fail
            refine (parts_calls g6 0 n6 d6 _ y1 (HOY1.out.rd encB_len) HBYL.out (by omega) r1 R2.out).mono ?_
            rintro e y2 ⟨hby2, ⟨hp, _⟩ | ⟨rows2, A7', n7, d7, hp, rfl, hrd7, hok7, hn7⟩⟩
            · rw [HPL.out] at hp; cases hp
            rw [HPL.out] at hp
            have HEQ : Hid (rows.map BRow.xs = rows2.map BRow.xs) := Option.some.inj hp
            have HBY2 := Lib.hid (HBY1.out.trans (hby2.mono HBY1.out.size))
            have HLY2 := Lib.hid (HLY1.out.below hby2)
            have HRY2 : Hid (∀ r ∈ rows, BRowOk y2 r) := fun r hr => (HRY1.out r hr).below hby2
            have HOY2 := Lib.hid (HOY1.out.below hby2)
            have hsm := samel_calls A7' A n7 ln d7 lc rows2 rows y2 hrd7 HLY2.out (fun r hr => ⟨hok7 r hr, by
                have h1 : r.xs ∈ rows.map BRow.xs := by rw [HEQ.out]; exact List.mem_map.2 ⟨r, hr, rfl⟩
                have := weigh_all HRY2.out HWE.out h1
                rw [(hok7 r hr).rd.len]; omega⟩) (fun r hr => ⟨HRY2.out r hr, by have := weigh_mem hr; have := HWE.out; omega⟩) hn7 (by omega)
            rw [decide_eq_true HEQ.out.symm] at hsm
            have HSM := Lib.hid hsm
            clear hsm hby2 hp hrd7 hok7 HBY1 HLY1 HRY1 HOY1 HEQ
            go_wp2_with fail
            refine HSM.out.mono ?_
            rintro e y3 ⟨rfl, hby3⟩
            have HBY3 := Lib.hid (HBY2.out.trans (hby3.mono HBY2.out.size))
            have HOY3 := Lib.hid (HOY2.out.below hby3)
            clear hby3 HSM HBY2 HLY2 HRY2 HOY2
            by_cases hc0 : 0 ≤ cut
            · obtain ⟨cu, hcu⟩ := Int.eq_ofNat_of_zero_le hc0
              by_cases hc1 : cut < (n6 : Int)
              · have hcn : cu < n6 := by omega
                have HPC : Hid (partsV ((listL (rows.map BRow.xs)).take cu) = none) := by
                  cases hq : partsV ((listL (rows.map BRow.xs)).take cu) with
                  | none => rfl
                  | some u =>
                    exfalso
                    have h1 := HPL.out
                    rw [← List.take_append_drop cu (listL (rows.map BRow.xs))] at h1
                    have h2 := parts_cut hq h1
                    have h3 := congrArg List.length h2
                    rw [List.length_drop, ← HOY3.out.1] at h3
                    simp at h3
                    omega
                have HT6 := Lib.hid (rd_take (HOY3.out.rd encB_len) (Nat.le_of_lt hcn))
                have HBT6 : Hid (Bytes ((listL (rows.map BRow.xs)).take cu)) := fun x hx => HBYL.out x (List.mem_of_mem_take hx)
                have hpc := Lib.hid (parts_calls g6 0 cu d6 _ y3 HT6.out HBT6.out (by omega) (by omega) R2.out)
                subst hcu
                clear HT6 HBT6 HOY3
                go_wp2_with fail
                refine hpc.out.mono ?_
                rintro e y4 ⟨hby4, ⟨_, rfl⟩ | ⟨rows3, A8, n8, d8, hp, _⟩⟩
                · have HBY4 := Lib.hid (HBY3.out.trans (hby4.mono HBY3.out.size))
                  clear hby4
                  go_wp2
                  go_ret
                  exact ⟨rfl, HBY4.out⟩
                · rw [HPC.out] at hp; cases hp
              · clear hcu
                go_wp2
                go_ret
                exact ⟨rfl, HBY3.out⟩
            · first
              | (exfalso; omega)
              | (go_wp2
                 go_ret
                 exact ⟨rfl, HBY3.out⟩)
          · have hv := numV_take hneg HNUM.out
            rcases htk with ⟨ht, _⟩ | ⟨v, ys, g4, d4, ht, _, rfl, _⟩
            · rw [hv] at ht; cases ht
            rw [hv] at ht
            injection ht with ht; injection ht with e1 e2
            subst e1; subst e2
            have hge : (0 : Int) ≤ num := by omega
            have hnn : ((num.toNat : Nat) : Int) = num := by omega
            have hlen1 : ([9] : List Int).length = 1 := rfl
            clear HM1 hv
            rw [hnn]
            go_wp2_with fail
            refine (list_calls A ln lc rows x4 HL4.out HRW4.out (by have := HWE.out; omega)).mono ?_
            rintro e y1 ⟨A6, n6, d6, rfl, hoy1, hby1⟩
            have HBY1 := Lib.hid (HBX4.out.trans (hby1.mono HBX4.out.size))
            have HOY1 := Lib.hid hoy1
            have HRY1 : Hid (∀ r ∈ rows, BRowOk y1 r) := fun r hr => (HRW4.out r hr).below hby1
            have HLY1 := Lib.hid (HL4.out.below hby1)
            have HBYL : Hid (Bytes (listL (rows.map BRow.xs))) := list_bytes _ (fun b hb => by
              obtain ⟨r, hr, rfl⟩ := List.mem_map.1 hb
              exact (HROWS.out r hr).1.2)
            have HPL : Hid (partsV (listL (rows.map BRow.xs)) = some (rows.map BRow.xs)) := parts_list _ (by rw [List.length_map]; have := weigh_len rows; have := HWE.out; omega) (fun b hb => by have := weigh_all HRY1.out HWE.out hb; omega)
            have hn6 : n6 ≤ 10000 := by
              have h1 := hoy1.1
              unfold listL at h1
              rw [List.length_append] at h1
              have h2 := vlq_len2 (rows.map BRow.xs).length
              rw [List.length_map] at h2 h1
              have h3 := rowsL_len rows HRY1.out
              have h4 := weigh_len rows
              have h5 := HWE.out
              omega
            obtain ⟨g6, rfl⟩ : ∃ g6, A6 = some ⟨g6, 0, none⟩ := by
              rcases hoy1.shape with ⟨_, h⟩ | ⟨g, h, _⟩
              · exfalso
                have hp := HPL.out
                rw [h] at hp
                exact absurd hp (by simp [partsV, takeV])
              · exact ⟨g, h⟩
            obtain ⟨r1, r2, _⟩ := own_caps hoy1
            have R2 := Lib.hid r2
            clear hoy1 hby1 HBX4 HL4 HRW4 r2
            go_wp2_with fail
            refine (parts_calls g6 0 n6 d6 _ y1 (HOY1.out.rd encB_len) HBYL.out (by omega) r1 R2.out).mono ?_
            rintro e y2 ⟨hby2, ⟨hp, _⟩ | ⟨rows2, A7', n7, d7, hp, rfl, hrd7, hok7, hn7⟩⟩
            · rw [HPL.out] at hp; cases hp
            rw [HPL.out] at hp
            have HEQ : Hid (rows.map BRow.xs = rows2.map BRow.xs) := Option.some.inj hp
            have HBY2 := Lib.hid (HBY1.out.trans (hby2.mono HBY1.out.size))
            have HLY2 := Lib.hid (HLY1.out.below hby2)
            have HRY2 : Hid (∀ r ∈ rows, BRowOk y2 r) := fun r hr => (HRY1.out r hr).below hby2
            have HOY2 := Lib.hid (HOY1.out.below hby2)
            have hsm := samel_calls A7' A n7 ln d7 lc rows2 rows y2 hrd7 HLY2.out (fun r hr => ⟨hok7 r hr, by
                have h1 : r.xs ∈ rows.map BRow.xs := by rw [HEQ.out]; exact List.mem_map.2 ⟨r, hr, rfl⟩
                have := weigh_all HRY2.out HWE.out h1
                rw [(hok7 r hr).rd.len]; omega⟩) (fun r hr => ⟨HRY2.out r hr, by have := weigh_mem hr; have := HWE.out; omega⟩) hn7 (by omega)
            rw [decide_eq_true HEQ.out.symm] at hsm
            have HSM := Lib.hid hsm
            clear hsm hby2 hp hrd7 hok7 HBY1 HLY1 HRY1 HOY1 HEQ
            go_wp2_with fail
            refine HSM.out.mono ?_
            rintro e y3 ⟨rfl, hby3⟩
            have HBY3 := Lib.hid (HBY2.out.trans (hby3.mono HBY2.out.size))
            have HOY3 := Lib.hid (HOY2.out.below hby3)
            clear hby3 HSM HBY2 HLY2 HRY2 HOY2
            by_cases hc0 : 0 ≤ cut
            · obtain ⟨cu, hcu⟩ := Int.eq_ofNat_of_zero_le hc0
              by_cases hc1 : cut < (n6 : Int)
              · have hcn : cu < n6 := by omega
                have HPC : Hid (partsV ((listL (rows.map BRow.xs)).take cu) = none) := by
                  cases hq : partsV ((listL (rows.map BRow.xs)).take cu) with
                  | none => rfl
                  | some u =>
                    exfalso
                    have h1 := HPL.out
                    rw [← List.take_append_drop cu (listL (rows.map BRow.xs))] at h1
                    have h2 := parts_cut hq h1
                    have h3 := congrArg List.length h2
                    rw [List.length_drop, ← HOY3.out.1] at h3
                    simp at h3
                    omega
                have HT6 := Lib.hid (rd_take (HOY3.out.rd encB_len) (Nat.le_of_lt hcn))
                have HBT6 : Hid (Bytes ((listL (rows.map BRow.xs)).take cu)) := fun x hx => HBYL.out x (List.mem_of_mem_take hx)
                have hpc := Lib.hid (parts_calls g6 0 cu d6 _ y3 HT6.out HBT6.out (by omega) (by omega) R2.out)
                subst hcu
                clear HT6 HBT6 HOY3
                go_wp2_with fail
                refine hpc.out.mono ?_
                rintro e y4 ⟨hby4, ⟨_, rfl⟩ | ⟨rows3, A8, n8, d8, hp, _⟩⟩
                · have HBY4 := Lib.hid (HBY3.out.trans (hby4.mono HBY3.out.size))
                  clear hby4
                  go_wp2
                  go_ret
                  exact ⟨rfl, HBY4.out⟩
                · rw [HPC.out] at hp; cases hp
              · clear hcu
                go_wp2
                go_ret
                exact ⟨rfl, HBY3.out⟩
            · first
              | (exfalso; omega)
              | (go_wp2
                 go_ret
                 exact ⟨rfl, HBY3.out⟩)
      · clear HO7 HO8
        go_wp2_with fail
        rw [← HW8.out]
        clear a0 a1 a2 a3 a4 a5 a6 a7 HA7 HB7 HW8
        refine (numx_calls num w8 HNUM.out).mono ?_
        rintro e x1 ⟨B1, m1, d1, rfl, hox1, hbx1⟩
        have HBX1 := Lib.hid (HB.out.trans (hbx1.mono HB.out.size))
        have HOX1 := Lib.hid hox1
        have hm1 : m1 ≤ 9 := by rw [HOX1.out.1]; exact numV_len num HNUM.out
        clear hox1 hbx1 HB
        go_wp2_with fail
        refine (copyb_calls B1 m1 d1 _ x1 (HOX1.out.rd encB_len) (own_nil HOX1.out) (by omega)).mono ?_
        rintro e x2 ⟨g2, d2, rfl, hox2, hbx2⟩
        have HBX2 := Lib.hid (HBX1.out.trans (hbx2.mono HBX1.out.size))
        have HOX2 := Lib.hid hox2
        have HSX2 := Lib.hid hbx2.size
        have HSX1 := Lib.hid HBX1.out.size
        have HM1 : Hid (m1 = (numV num).length) := HOX1.out.1
        clear hox2 hbx2 HOX1 HBX1
        go_wp2_with (at_builtin; refine app_byte rfl (.tmp 72) (.tmp 73) rfl 9 rfl HOX2.out rfl rfl (by omega) HSX2.out ?_; intro g3 d3 x3 h1 h2 h3 h4)
        have HOX3 := Lib.hid h1
        have HBX3 := Lib.hid (HBX2.out.trans (h2.below HBX2.out.size (fun i hi => by have := own_above HOX2.out i hi; have := HSX1.out; omega)))
        obtain ⟨q1, q2, _⟩ := own_caps h1
        have Q2 := Lib.hid q2
        clear h1 h2 h3 h4 HOX2 HSX2 HSX1 HBX2 q2
        refine (take_calls g3 0 (m1 + 1) d3 _ x3 (HOX3.out.rd encB_len) (bytes_app (numV_bytes num) (bytes_one (by omega) (by omega))) (by omega) q1 Q2.out).mono ?_
        rintro e x4 ⟨hbx4, htk⟩
        have HBX4 := Lib.hid (HBX3.out.trans (hbx4.mono HBX3.out.size))
        clear hbx4 HOX3 HBX3 Q2 q1
        have HL4 := Lib.hid (HL.out.below HBX4.out)
        have HRW4 : Hid (∀ r ∈ rows, BRowOk x4 r) := fun r hr => (HROWS.out r hr).1.1.below HBX4.out
        by_cases hneg : num < 0
        · have hm0 : m1 = 0 := by rw [HM1.out, numV_neg hneg]; rfl
          subst hm0
          rw [numV_neg hneg] at htk
          have ht9 : takeV 0 0 ([] ++ [9]) = some (9, []) := by kernel_rfl
          rcases htk with ⟨ht, _⟩ | ⟨v, ys, g4, d4, ht, _, rfl, _⟩
          · rw [ht9] at ht; cases ht
          rw [ht9] at ht
          injection ht with ht; injection ht with e1 e2
          subst e1; subst e2
          have hge : ¬ (0 : Int) ≤ num := by omega
          have hlen0 : ([] : List Int).length = 0 := rfl
          clear HM1
          go_wp2_with fail
          refine (list_calls A ln lc rows x4 HL4.out HRW4.out (by have := HWE.out; omega)).mono ?_
          rintro e y1 ⟨A6, n6, d6, rfl, hoy1, hby1⟩
          have HBY1 := Lib.hid (HBX4.out.trans (hby1.mono HBX4.out.size))
          have HOY1 := Lib.hid hoy1
          have HRY1 : Hid (∀ r ∈ rows, BRowOk y1 r) := fun r hr => (HRW4.out r hr).below hby1
          have HLY1 := Lib.hid (HL4.out.below hby1)
          have HBYL : Hid (Bytes (listL (rows.map BRow.xs))) := list_bytes _ (fun b hb => by
            obtain ⟨r, hr, rfl⟩ := List.mem_map.1 hb
            exact (HROWS.out r hr).1.2)
          have HPL : Hid (partsV (listL (rows.map BRow.xs)) = some (rows.map BRow.xs)) := parts_list _ (by rw [List.length_map]; have := weigh_len rows; have := HWE.out; omega) (fun b hb => by have := weigh_all HRY1.out HWE.out hb; omega)
          have hn6 : n6 ≤ 10000 := by
            have h1 := hoy1.1
            unfold listL at h1
            rw [List.length_append] at h1
            have h2 := vlq_len2 (rows.map BRow.xs).length
            rw [List.length_map] at h2 h1
            have h3 := rowsL_len rows HRY1.out
            have h4 := weigh_len rows
            have h5 := HWE.out
            omega
          obtain ⟨g6, rfl⟩ : ∃ g6, A6 = some ⟨g6, 0, none⟩ := by
            rcases hoy1.shape with ⟨_, h⟩ | ⟨g, h, _⟩
            · exfalso
              have hp := HPL.out
              rw [h] at hp
              exact absurd hp (by simp [partsV, takeV])
            · exact ⟨g, h⟩
          obtain ⟨r1, r2, _⟩ := own_caps hoy1
          have R2 := Lib.hid r2
          clear hoy1 hby1 HBX4 HL4 HRW4 r2
          go_wp2_with fail
          refine (parts_calls g6 0 n6 d6 _ y1 (HOY1.out.rd encB_len) HBYL.out (by omega) r1 R2.out).mono ?_
          rintro e y2 ⟨hby2, ⟨hp, _⟩ | ⟨rows2, A7', n7, d7, hp, rfl, hrd7, hok7, hn7⟩⟩
          · rw [HPL.out] at hp; cases hp
          rw [HPL.out] at hp
          have HEQ : Hid (rows.map BRow.xs = rows2.map BRow.xs) := Option.some.inj hp
          have HBY2 := Lib.hid (HBY1.out.trans (hby2.mono HBY1.out.size))
          have HLY2 := Lib.hid (HLY1.out.below hby2)
          have HRY2 : Hid (∀ r ∈ rows, BRowOk y2 r) := fun r hr => (HRY1.out r hr).below hby2
          have HOY2 := Lib.hid (HOY1.out.below hby2)
          have hsm := samel_calls A7' A n7 ln d7 lc rows2 rows y2 hrd7 HLY2.out (fun r hr => ⟨hok7 r hr, by
              have h1 : r.xs ∈ rows.map BRow.xs := by rw [HEQ.out]; exact List.mem_map.2 ⟨r, hr, rfl⟩
              have := weigh_all HRY2.out HWE.out h1
              rw [(hok7 r hr).rd.len]; omega⟩) (fun r hr => ⟨HRY2.out r hr, by have := weigh_mem hr; have := HWE.out; omega⟩) hn7 (by omega)
          rw [decide_eq_true HEQ.out.symm] at hsm
          have HSM := Lib.hid hsm
          clear hsm hby2 hp hrd7 hok7 HBY1 HLY1 HRY1 HOY1 HEQ
          go_wp2_with fail
          refine HSM.out.mono ?_
          rintro e y3 ⟨rfl, hby3⟩
          have HBY3 := Lib.hid (HBY2.out.trans (hby3.mono HBY2.out.size))
          have HOY3 := Lib.hid (HOY2.out.below hby3)
          clear hby3 HSM HBY2 HLY2 HRY2 HOY2
          by_cases hc0 : 0 ≤ cut
          · exact absurd hc0 (by omega)
          · first
            | (exfalso; omega)
            | (go_wp2
               go_ret
               exact ⟨rfl, HBY3.out⟩)
        · have hv := numV_take hneg HNUM.out
          rcases htk with ⟨ht, _⟩ | ⟨v, ys, g4, d4, ht, _, rfl, _⟩
          · rw [hv] at ht; cases ht
          rw [hv] at ht
          injection ht with ht; injection ht with e1 e2
          subst e1; subst e2
          have hge : (0 : Int) ≤ num := by omega
          have hnn : ((num.toNat : Nat) : Int) = num := by omega
          have hlen1 : ([9] : List Int).length = 1 := rfl
          clear HM1 hv
          rw [hnn]
          go_wp2_with fail
          refine (list_calls A ln lc rows x4 HL4.out HRW4.out (by have := HWE.out; omega)).mono ?_
          rintro e y1 ⟨A6, n6, d6, rfl, hoy1, hby1⟩
          have HBY1 := Lib.hid (HBX4.out.trans (hby1.mono HBX4.out.size))
          have HOY1 := Lib.hid hoy1
          have HRY1 : Hid (∀ r ∈ rows, BRowOk y1 r) := fun r hr => (HRW4.out r hr).below hby1
          have HLY1 := Lib.hid (HL4.out.below hby1)
          have HBYL : Hid (Bytes (listL (rows.map BRow.xs))) := list_bytes _ (fun b hb => by
            obtain ⟨r, hr, rfl⟩ := List.mem_map.1 hb
            exact (HROWS.out r hr).1.2)
          have HPL : Hid (partsV (listL (rows.map BRow.xs)) = some (rows.map BRow.xs)) := parts_list _ (by rw [List.length_map]; have := weigh_len rows; have := HWE.out; omega) (fun b hb => by have := weigh_all HRY1.out HWE.out hb; omega)
          have hn6 : n6 ≤ 10000 := by
            have h1 := hoy1.1
            unfold listL at h1
            rw [List.length_append] at h1
            have h2 := vlq_len2 (rows.map BRow.xs).length
            rw [List.length_map] at h2 h1
            have h3 := rowsL_len rows HRY1.out
            have h4 := weigh_len rows
            have h5 := HWE.out
            omega
          obtain ⟨g6, rfl⟩ : ∃ g6, A6 = some ⟨g6, 0, none⟩ := by
            rcases hoy1.shape with ⟨_, h⟩ | ⟨g, h, _⟩
            · exfalso
              have hp := HPL.out
              rw [h] at hp
              exact absurd hp (by simp [partsV, takeV])
            · exact ⟨g, h⟩
          obtain ⟨r1, r2, _⟩ := own_caps hoy1
          have R2 := Lib.hid r2
          clear hoy1 hby1 HBX4 HL4 HRW4 r2
          go_wp2_with fail
          refine (parts_calls g6 0 n6 d6 _ y1 (HOY1.out.rd encB_len) HBYL.out (by omega) r1 R2.out).mono ?_
          rintro e y2 ⟨hby2, ⟨hp, _⟩ | ⟨rows2, A7', n7, d7, hp, rfl, hrd7, hok7, hn7⟩⟩
          · rw [HPL.out] at hp; cases hp
          rw [HPL.out] at hp
          have HEQ : Hid (rows.map BRow.xs = rows2.map BRow.xs) := Option.some.inj hp
          have HBY2 := Lib.hid (HBY1.out.trans (hby2.mono HBY1.out.size))
          have HLY2 := Lib.hid (HLY1.out.below hby2)
          have HRY2 : Hid (∀ r ∈ rows, BRowOk y2 r) := fun r hr => (HRY1.out r hr).below hby2
          have HOY2 := Lib.hid (HOY1.out.below hby2)
          have hsm := samel_calls A7' A n7 ln d7 lc rows2 rows y2 hrd7 HLY2.out (fun r hr => ⟨hok7 r hr, by
              have h1 : r.xs ∈ rows.map BRow.xs := by rw [HEQ.out]; exact List.mem_map.2 ⟨r, hr, rfl⟩
              have := weigh_all HRY2.out HWE.out h1
              rw [(hok7 r hr).rd.len]; omega⟩) (fun r hr => ⟨HRY2.out r hr, by have := weigh_mem hr; have := HWE.out; omega⟩) hn7 (by omega)
          rw [decide_eq_true HEQ.out.symm] at hsm
          have HSM := Lib.hid hsm
          clear hsm hby2 hp hrd7 hok7 HBY1 HLY1 HRY1 HOY1 HEQ
          go_wp2_with fail
          refine HSM.out.mono ?_
          rintro e y3 ⟨rfl, hby3⟩
          have HBY3 := Lib.hid (HBY2.out.trans (hby3.mono HBY2.out.size))
          have HOY3 := Lib.hid (HOY2.out.below hby3)
          clear hby3 HSM HBY2 HLY2 HRY2 HOY2
          by_cases hc0 : 0 ≤ cut
          · exact absurd hc0 (by omega)
          · first
            | (exfalso; omega)
            | (go_wp2
               go_ret
               exact ⟨rfl, HBY3.out⟩)
    · have HA5 := Lib.hid (cells_below hb5 HA4.out)
      have HB5 := Lib.hid (HB4.out.trans (hb5.mono HB4.out.size))
      have HOK := Lib.hid hok
      clear hb5 HA4 HB4 a0 a1 a2 a3 a4 a5 a6 a7 hok
      obtain ⟨a0, a1, a2, a3, a4, a5, a6, a7⟩ := cells_get HA5.out
      go_wp2_with fail
      refine (right_calls c w5 HFC.out (HG.out.below HB5.out).tabs).mono ?_
      rw [HOK.out]
      rintro e w6 ⟨rfl, hb6⟩
      have HB := Lib.hid (HB5.out.trans (hb6.mono HB5.out.size))
      clear hb6 HA5 HB5 a0 a1 a2 a3 a4 a5 a6 a7
      go_wp2_with fail
      refine (numx_calls num w6 HNUM.out).mono ?_
      rintro e x1 ⟨B1, m1, d1, rfl, hox1, hbx1⟩
      have HBX1 := Lib.hid (HB.out.trans (hbx1.mono HB.out.size))
      have HOX1 := Lib.hid hox1
      have hm1 : m1 ≤ 9 := by rw [HOX1.out.1]; exact numV_len num HNUM.out
      clear hox1 hbx1 HB
      go_wp2_with fail
      refine (copyb_calls B1 m1 d1 _ x1 (HOX1.out.rd encB_len) (own_nil HOX1.out) (by omega)).mono ?_
      rintro e x2 ⟨g2, d2, rfl, hox2, hbx2⟩
      have HBX2 := Lib.hid (HBX1.out.trans (hbx2.mono HBX1.out.size))
      have HOX2 := Lib.hid hox2
      have HSX2 := Lib.hid hbx2.size
      have HSX1 := Lib.hid HBX1.out.size
      have HM1 : Hid (m1 = (numV num).length) := HOX1.out.1
      clear hox2 hbx2 HOX1 HBX1
      go_wp2_with (at_builtin; refine app_byte rfl (.tmp 72) (.tmp 73) rfl 9 rfl HOX2.out rfl rfl (by omega) HSX2.out ?_; intro g3 d3 x3 h1 h2 h3 h4)
      have HOX3 := Lib.hid h1
      have HBX3 := Lib.hid (HBX2.out.trans (h2.below HBX2.out.size (fun i hi => by have := own_above HOX2.out i hi; have := HSX1.out; omega)))
      obtain ⟨q1, q2, _⟩ := own_caps h1
      have Q2 := Lib.hid q2
      clear h1 h2 h3 h4 HOX2 HSX2 HSX1 HBX2 q2
      refine (take_calls g3 0 (m1 + 1) d3 _ x3 (HOX3.out.rd encB_len) (bytes_app (numV_bytes num) (bytes_one (by omega) (by omega))) (by omega) q1 Q2.out).mono ?_
      rintro e x4 ⟨hbx4, htk⟩
      have HBX4 := Lib.hid (HBX3.out.trans (hbx4.mono HBX3.out.size))
      clear hbx4 HOX3 HBX3 Q2 q1
      have HL4 := Lib.hid (HL.out.below HBX4.out)
      have HRW4 : Hid (∀ r ∈ rows, BRowOk x4 r) := fun r hr => (HROWS.out r hr).1.1.below HBX4.out
      by_cases hneg : num < 0
      · have hm0 : m1 = 0 := by rw [HM1.out, numV_neg hneg]; rfl
        subst hm0
        rw [numV_neg hneg] at htk
        have ht9 : takeV 0 0 ([] ++ [9]) = some (9, []) := by kernel_rfl
        rcases htk with ⟨ht, _⟩ | ⟨v, ys, g4, d4, ht, _, rfl, _⟩
        · rw [ht9] at ht; cases ht
        rw [ht9] at ht
        injection ht with ht; injection ht with e1 e2
        subst e1; subst e2
        have hge : ¬ (0 : Int) ≤ num := by omega
        have hlen0 : ([] : List Int).length = 0 := rfl
        clear HM1
        go_wp2_with fail
        refine (list_calls A ln lc rows x4 HL4.out HRW4.out (by have := HWE.out; omega)).mono ?_
        rintro e y1 ⟨A6, n6, d6, rfl, hoy1, hby1⟩
        have HBY1 := Lib.hid (HBX4.out.trans (hby1.mono HBX4.out.size))
        have HOY1 := Lib.hid hoy1
        have HRY1 : Hid (∀ r ∈ rows, BRowOk y1 r) := fun r hr => (HRW4.out r hr).below hby1
        have HLY1 := Lib.hid (HL4.out.below hby1)
        have HBYL : Hid (Bytes (listL (rows.map BRow.xs))) := list_bytes _ (fun b hb => by
          obtain ⟨r, hr, rfl⟩ := List.mem_map.1 hb
          exact (HROWS.out r hr).1.2)
        have HPL : Hid (partsV (listL (rows.map BRow.xs)) = some (rows.map BRow.xs)) := parts_list _ (by rw [List.length_map]; have := weigh_len rows; have := HWE.out; omega) (fun b hb => by have := weigh_all HRY1.out HWE.out hb; omega)
        have hn6 : n6 ≤ 10000 := by
          have h1 := hoy1.1
          unfold listL at h1
          rw [List.length_append] at h1
          have h2 := vlq_len2 (rows.map BRow.xs).length
          rw [List.length_map] at h2 h1
          have h3 := rowsL_len rows HRY1.out
          have h4 := weigh_len rows
          have h5 := HWE.out
          omega
        obtain ⟨g6, rfl⟩ : ∃ g6, A6 = some ⟨g6, 0, none⟩ := by
          rcases hoy1.shape with ⟨_, h⟩ | ⟨g, h, _⟩
          · exfalso
            have hp := HPL.out
            rw [h] at hp
            exact absurd hp (by simp [partsV, takeV])
          · exact ⟨g, h⟩
        obtain ⟨r1, r2, _⟩ := own_caps hoy1
        have R2 := Lib.hid r2
        clear hoy1 hby1 HBX4 HL4 HRW4 r2
        go_wp2_with fail
        refine (parts_calls g6 0 n6 d6 _ y1 (HOY1.out.rd encB_len) HBYL.out (by omega) r1 R2.out).mono ?_
        rintro e y2 ⟨hby2, ⟨hp, _⟩ | ⟨rows2, A7', n7, d7, hp, rfl, hrd7, hok7, hn7⟩⟩
        · rw [HPL.out] at hp; cases hp
        rw [HPL.out] at hp
        have HEQ : Hid (rows.map BRow.xs = rows2.map BRow.xs) := Option.some.inj hp
        have HBY2 := Lib.hid (HBY1.out.trans (hby2.mono HBY1.out.size))
        have HLY2 := Lib.hid (HLY1.out.below hby2)
        have HRY2 : Hid (∀ r ∈ rows, BRowOk y2 r) := fun r hr => (HRY1.out r hr).below hby2
        have HOY2 := Lib.hid (HOY1.out.below hby2)
        have hsm := samel_calls A7' A n7 ln d7 lc rows2 rows y2 hrd7 HLY2.out (fun r hr => ⟨hok7 r hr, by
            have h1 : r.xs ∈ rows.map BRow.xs := by rw [HEQ.out]; exact List.mem_map.2 ⟨r, hr, rfl⟩
            have := weigh_all HRY2.out HWE.out h1
            rw [(hok7 r hr).rd.len]; omega⟩) (fun r hr => ⟨HRY2.out r hr, by have := weigh_mem hr; have := HWE.out; omega⟩) hn7 (by omega)
        rw [decide_eq_true HEQ.out.symm] at hsm
        have HSM := Lib.hid hsm
        clear hsm hby2 hp hrd7 hok7 HBY1 HLY1 HRY1 HOY1 HEQ
        go_wp2_with fail
        refine HSM.out.mono ?_
        rintro e y3 ⟨rfl, hby3⟩
        have HBY3 := Lib.hid (HBY2.out.trans (hby3.mono HBY2.out.size))
        have HOY3 := Lib.hid (HOY2.out.below hby3)
        clear hby3 HSM HBY2 HLY2 HRY2 HOY2
        by_cases hc0 : 0 ≤ cut
        · obtain ⟨cu, hcu⟩ := Int.eq_ofNat_of_zero_le hc0
          by_cases hc1 : cut < (n6 : Int)
          · have hcn : cu < n6 := by omega
            have HPC : Hid (partsV ((listL (rows.map BRow.xs)).take cu) = none) := by
              cases hq : partsV ((listL (rows.map BRow.xs)).take cu) with
              | none => rfl
              | some u =>
                exfalso
                have h1 := HPL.out
                rw [← List.take_append_drop cu (listL (rows.map BRow.xs))] at h1
                have h2 := parts_cut hq h1
                have h3 := congrArg List.length h2
                rw [List.length_drop, ← HOY3.out.1] at h3
                simp at h3
                omega
            have HT6 := Lib.hid (rd_take (HOY3.out.rd encB_len) (Nat.le_of_lt hcn))
            have HBT6 : Hid (Bytes ((listL (rows.map BRow.xs)).take cu)) := fun x hx => HBYL.out x (List.mem_of_mem_take hx)
            have hpc := Lib.hid (parts_calls g6 0 cu d6 _ y3 HT6.out HBT6.out (by omega) (by omega) R2.out)
            subst hcu
            clear HT6 HBT6 HOY3
            go_wp2_with fail
            refine hpc.out.mono ?_
            rintro e y4 ⟨hby4, ⟨_, rfl⟩ | ⟨rows3, A8, n8, d8, hp, _⟩⟩
            · have HBY4 := Lib.hid (HBY3.out.trans (hby4.mono HBY3.out.size))
              clear hby4
              go_wp2
              go_ret
              exact ⟨rfl, HBY4.out⟩
            · rw [HPC.out] at hp; cases hp
          · clear hcu
            go_wp2
            go_ret
            exact ⟨rfl, HBY3.out⟩
        · first
          | (exfalso; omega)
          | (go_wp2
             go_ret
             exact ⟨rfl, HBY3.out⟩)
      · have hv := numV_take hneg HNUM.out
        rcases htk with ⟨ht, _⟩ | ⟨v, ys, g4, d4, ht, _, rfl, _⟩
        · rw [hv] at ht; cases ht
        rw [hv] at ht
        injection ht with ht; injection ht with e1 e2
        subst e1; subst e2
        have hge : (0 : Int) ≤ num := by omega
        have hnn : ((num.toNat : Nat) : Int) = num := by omega
        have hlen1 : ([9] : List Int).length = 1 := rfl
        clear HM1 hv
        rw [hnn]
        go_wp2_with fail
        refine (list_calls A ln lc rows x4 HL4.out HRW4.out (by have := HWE.out; omega)).mono ?_
        rintro e y1 ⟨A6, n6, d6, rfl, hoy1, hby1⟩
        have HBY1 := Lib.hid (HBX4.out.trans (hby1.mono HBX4.out.size))
        have HOY1 := Lib.hid hoy1
        have HRY1 : Hid (∀ r ∈ rows, BRowOk y1 r) := fun r hr => (HRW4.out r hr).below hby1
        have HLY1 := Lib.hid (HL4.out.below hby1)
        have HBYL : Hid (Bytes (listL (rows.map BRow.xs))) := list_bytes _ (fun b hb => by
          obtain ⟨r, hr, rfl⟩ := List.mem_map.1 hb
          exact (HROWS.out r hr).1.2)
        have HPL : Hid (partsV (listL (rows.map BRow.xs)) = some (rows.map BRow.xs)) := parts_list _ (by rw [List.length_map]; have := weigh_len rows; have := HWE.out; omega) (fun b hb => by have := weigh_all HRY1.out HWE.out hb; omega)
        have hn6 : n6 ≤ 10000 := by
          have h1 := hoy1.1
          unfold listL at h1
          rw [List.length_append] at h1
          have h2 := vlq_len2 (rows.map BRow.xs).length
          rw [List.length_map] at h2 h1
          have h3 := rowsL_len rows HRY1.out
          have h4 := weigh_len rows
          have h5 := HWE.out
          omega
        obtain ⟨g6, rfl⟩ : ∃ g6, A6 = some ⟨g6, 0, none⟩ := by
          rcases hoy1.shape with ⟨_, h⟩ | ⟨g, h, _⟩
          · exfalso
            have hp := HPL.out
            rw [h] at hp
            exact absurd hp (by simp [partsV, takeV])
          · exact ⟨g, h⟩
        obtain ⟨r1, r2, _⟩ := own_caps hoy1
        have R2 := Lib.hid r2
        clear hoy1 hby1 HBX4 HL4 HRW4 r2
        go_wp2_with fail
        refine (parts_calls g6 0 n6 d6 _ y1 (HOY1.out.rd encB_len) HBYL.out (by omega) r1 R2.out).mono ?_
        rintro e y2 ⟨hby2, ⟨hp, _⟩ | ⟨rows2, A7', n7, d7, hp, rfl, hrd7, hok7, hn7⟩⟩
        · rw [HPL.out] at hp; cases hp
        rw [HPL.out] at hp
        have HEQ : Hid (rows.map BRow.xs = rows2.map BRow.xs) := Option.some.inj hp
        have HBY2 := Lib.hid (HBY1.out.trans (hby2.mono HBY1.out.size))
        have HLY2 := Lib.hid (HLY1.out.below hby2)
        have HRY2 : Hid (∀ r ∈ rows, BRowOk y2 r) := fun r hr => (HRY1.out r hr).below hby2
        have HOY2 := Lib.hid (HOY1.out.below hby2)
        have hsm := samel_calls A7' A n7 ln d7 lc rows2 rows y2 hrd7 HLY2.out (fun r hr => ⟨hok7 r hr, by
            have h1 : r.xs ∈ rows.map BRow.xs := by rw [HEQ.out]; exact List.mem_map.2 ⟨r, hr, rfl⟩
            have := weigh_all HRY2.out HWE.out h1
            rw [(hok7 r hr).rd.len]; omega⟩) (fun r hr => ⟨HRY2.out r hr, by have := weigh_mem hr; have := HWE.out; omega⟩) hn7 (by omega)
        rw [decide_eq_true HEQ.out.symm] at hsm
        have HSM := Lib.hid hsm
        clear hsm hby2 hp hrd7 hok7 HBY1 HLY1 HRY1 HOY1 HEQ
        go_wp2_with fail
        refine HSM.out.mono ?_
        rintro e y3 ⟨rfl, hby3⟩
        have HBY3 := Lib.hid (HBY2.out.trans (hby3.mono HBY2.out.size))
        have HOY3 := Lib.hid (HOY2.out.below hby3)
        clear hby3 HSM HBY2 HLY2 HRY2 HOY2
        by_cases hc0 : 0 ≤ cut
        · obtain ⟨cu, hcu⟩ := Int.eq_ofNat_of_zero_le hc0
          by_cases hc1 : cut < (n6 : Int)
          · have hcn : cu < n6 := by omega
            have HPC : Hid (partsV ((listL (rows.map BRow.xs)).take cu) = none) := by
              cases hq : partsV ((listL (rows.map BRow.xs)).take cu) with
              | none => rfl
              | some u =>
                exfalso
                have h1 := HPL.out
                rw [← List.take_append_drop cu (listL (rows.map BRow.xs))] at h1
                have h2 := parts_cut hq h1
                have h3 := congrArg List.length h2
                rw [List.length_drop, ← HOY3.out.1] at h3
                simp at h3
                omega
            have HT6 := Lib.hid (rd_take (HOY3.out.rd encB_len) (Nat.le_of_lt hcn))
            have HBT6 : Hid (Bytes ((listL (rows.map BRow.xs)).take cu)) := fun x hx => HBYL.out x (List.mem_of_mem_take hx)
            have hpc := Lib.hid (parts_calls g6 0 cu d6 _ y3 HT6.out HBT6.out (by omega) (by omega) R2.out)
            subst hcu
            clear HT6 HBT6 HOY3
            go_wp2_with fail
            refine hpc.out.mono ?_
            rintro e y4 ⟨hby4, ⟨_, rfl⟩ | ⟨rows3, A8, n8, d8, hp, _⟩⟩
            · have HBY4 := Lib.hid (HBY3.out.trans (hby4.mono HBY3.out.size))
              clear hby4
              go_wp2
              go_ret
              exact ⟨rfl, HBY4.out⟩
            · rw [HPC.out] at hp; cases hp
          · clear hcu
            go_wp2
            go_ret
            exact ⟨rfl, HBY3.out⟩
        · first
          | (exfalso; omega)
          | (go_wp2
             go_ret
             exact ⟨rfl, HBY3.out⟩)
end Go.Proofs.YtonghiaocpenaaaDoor
