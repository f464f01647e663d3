/-
  CellApart, walked: it answers true and turns nothing that was there.
-/
import Derived.Test.YtndmlldaebdnmaaDoorWLaw
namespace Go.Proofs.YtndmlldaebdnmaaDoor
open Go.RowKit

set_option maxHeartbeats 4000000 in
set_option maxRecDepth 20000 in
theorem lapart_calls (a : Option Addr) (n ca : Nat) (xs : List Cell) (v life now : Int) (row fam : ByteArray) (w : World) (hx : ArgC w a n ca xs) (hv : isInt v) (hlife : isInt life) (hnow : isInt now) (hrow : row.size ≤ 140737488351232) (hfam : fam.size ≤ 140737488351232) (hT : Lib.Utf8Tabs 0 1 w) :
    Calls Tryd.prog 7 #[.slice a n ca, .int .i64 v, .int .i64 life, .int .i64 now, .string row, .string fam] w fun e w' => e = .returned (.bool true) ∧ Below w.heap.size w w' := by
  have HX := Lib.hid hx
  have HT := Lib.hid hT
  have hal := Lib.hid (alive_calls w hT)
  clear hx hT
  go_enter Tryd.func7, Tryd.ntmps7
  go_wp2_with fail
  refine hal.out.mono ?_
  clear hal
  rintro e w1 ⟨rfl, hb1⟩
  have hlong := Lib.hid (longl_calls a n ca xs w1 (HX.out.1.below hb1) (by have := HX.out.2.2.2; omega))
  have HB1 := Lib.hid hb1
  clear hb1
  go_wp2_with fail
  refine hlong.out.mono ?_
  clear hlong
  rintro e w2 ⟨rfl, hw⟩
  obtain rfl : w1 = w2 := hw.symm
  cases hl : longC xs 60 with
  | true =>
    go_wp2
    go_ret
    exact ⟨rfl, HB1.out⟩
  | false =>
  have hn : n ≤ 60 := by have := long_few hl; rw [HX.out.1.len]; exact this
  clear hl
  by_cases g1 : now < 0
  · go_wp2
    go_ret
    exact ⟨rfl, HB1.out⟩
  by_cases g2 : 1125899906842624 < now
  · go_wp2
    go_ret
    exact ⟨rfl, HB1.out⟩
  by_cases g3 : 1125899906842624 < life
  · go_wp2
    go_ret
    exact ⟨rfl, HB1.out⟩
  by_cases g4 : 100 < row.size
  · go_wp2
    go_ret
    exact ⟨rfl, HB1.out⟩
  by_cases g5 : 100 < fam.size
  · go_wp2
    go_ret
    exact ⟨rfl, HB1.out⟩
  have hrng : -1152921504606846976 ≤ now ∧ now ≤ 1152921504606846976 := by omega
  go_wp2_with fail
  go_loopw [13, 14] (fun o i wr => ∃ (k m cap : Nat) (B : Option Addr), k ≤ n ∧ i = .int .i64 k ∧ o = .slice B m cap ∧ m ≤ k ∧ Hid (OwnC wr w1.heap.size B m cap ((xs.take k).filter (ofB row fam))) ∧ Hid (Below w1.heap.size w1 wr)) (fun _ i _ => n - (intOf i).toNat)
  case atStart => exact ⟨0, 0, 0, some ⟨w1.heap.size, 0, none⟩, Nat.zero_le _, rfl, rfl, Nat.le_refl _, Own.lit _ _ _ _ _ (Nat.le_refl _), (Below.refl _ _).alloc (Nat.le_refl _) _⟩
  case round =>
    obtain ⟨k, m, cap, B, hk, rfl, rfl, hm, HO, HBW⟩ := hrel
    by_cases hlt : k < n
    · obtain ⟨c, bb, off, hc, hA2, hbl, hc8⟩ := rd8 (HX.out.1.below (HB1.out.trans (HBW.out.mono HB1.out.size))) k hlt
      obtain ⟨k0, k1, k2, k3, k4, k5, k6, k7⟩ := hc8.get
      have htk : xs.take (k + 1) = xs.take k ++ [c] := by rw [List.take_add_one, hc]; rfl
      have HTK := Lib.hid htk
      have e1 := str_dec c.row row
      have e2 := str_dec c.fam fam
      subst hA2
      have hsz := HBW.out.size
      clear hc8 hc htk hbl
      by_cases hin : c.row = row ∧ c.fam = fam
      · obtain ⟨hr, hf⟩ := hin
        rw [decide_eq_true hr] at e1
        rw [decide_eq_true hf] at e2
        have he : Hid ((xs.take (k + 1)).filter (ofB row fam) = (xs.take k).filter (ofB row fam) ++ [c]) := by
          have e : [c].filter (ofB row fam) = [c] := by simp [ofB, hr, hf]
          unfold Hid
          rw [HTK.out, List.filter_append, e]
        clear hr hf HTK
        go_wp2_with (at_builtin; refine app_cell rfl (.tmp 67) (.tmp 72) rfl c rfl HO.out rfl rfl (by omega) hsz ?_; intro g6 cap6 w6 h1 h2 h3 h4)
        have hwb : ∀ x, B = some ⟨x, 0, none⟩ → w1.heap.size ≤ x := fun x hx => by
          rcases HO.out.shape with ⟨h, _⟩ | ⟨q, h, h5, _⟩
          · rw [h] at hx; cases hx
          · rw [h] at hx; injection hx with hx; injection hx with hx; omega
        have HBW6 := Lib.hid (HBW.out.trans (h2.below (B := w1.heap.size) hsz (fun i hi => hwb i hi)))
        rw [← he.out] at h1
        have HO6 := Lib.hid h1
        clear h1 h2 h3 h4 he hwb
        go_wp2
        go_roundw
        case rel => exact ⟨k + 1, m + 1, cap6, some ⟨g6, 0, none⟩, by omega, by go_num, rfl, by omega, HO6.out, HBW6.out⟩
        case measure => simp [intOf]; omega
      · have he : Hid ((xs.take (k + 1)).filter (ofB row fam) = (xs.take k).filter (ofB row fam)) := by
          have e : [c].filter (ofB row fam) = [] := by
            have : ofB row fam c = false := by
              unfold ofB
              rw [Bool.and_eq_false_iff]
              by_cases hr : c.row = row
              · exact .inr (decide_eq_false (fun hf => hin ⟨hr, hf⟩))
              · exact .inl (decide_eq_false hr)
            simp [this]
          unfold Hid
          rw [HTK.out, List.filter_append, e, List.append_nil]
        have HO6 : Hid (OwnC wr w1.heap.size B m cap ((xs.take (k + 1)).filter (ofB row fam))) := by rw [he.out]; exact HO
        by_cases hr : c.row = row
        case' pos =>
          have hf : ¬ c.fam = fam := fun hf => hin ⟨hr, hf⟩
          rw [decide_eq_true hr] at e1
          rw [decide_eq_false hf] at e2
          clear hf
        case' neg =>
          rw [decide_eq_false hr] at e1
          clear e2
        all_goals
          clear hr hin he HTK HO
          go_wp2
          go_roundw
          case rel => exact ⟨k + 1, m, cap, B, by omega, by go_num, rfl, by omega, HO6.out, HBW.out⟩
          case measure => simp [intOf]; omega
    · obtain rfl : k = n := by omega
      have HO2 : Hid (OwnC wr w1.heap.size B m cap (xs.filter (ofB row fam))) := by
        have := HO.out
        rw [List.take_of_length_le (by rw [← HX.out.1.len]; exact Nat.le_refl _)] at this
        exact Lib.hid this
      clear HO hlt
      have HB2 := Lib.hid (HB1.out.trans (HBW.out.mono HB1.out.size))
      have hs := Lib.hid (seen_all a k ca xs v life now wr (HX.out.1.below HB2.out) (by omega) HX.out.2.1 (tabs_below HT.out HB2.out) (.inr hrng))
      go_wp2_with fail
      refine hs.out.mono ?_
      clear hs
      rintro e w3 ⟨A3, n3, c3, rfl, ho3, hb3⟩
      have HO23 := Lib.hid (HO2.out.below hb3)
      have HB3 := Lib.hid (HB2.out.trans (hb3.mono HB2.out.size))
      obtain ⟨SA, hSA⟩ : ∃ SA, SA = seenL v life now xs := ⟨_, rfl⟩
      have HSA := Lib.hid hSA
      rw [← hSA] at ho3
      have HO3 := Lib.hid ho3
      have hl3 : n3 ≤ 60 := by rw [ho3.1, hSA]; exact Nat.le_trans (seenL_len v life now xs) (by rw [← HX.out.1.len]; exact hn)
      have HB13 := Lib.hid (HBW.out.trans (hb3.mono HBW.out.size))
      clear ho3 hb3 hSA HO2 HB2 HBW
      obtain ⟨m0, hm0⟩ : ∃ x, x = m := ⟨_, rfl⟩
      obtain ⟨cap0, hcap0⟩ : ∃ x, x = cap := ⟨_, rfl⟩
      obtain ⟨B0, hB0⟩ : ∃ x, x = B := ⟨_, rfl⟩
      rw [← hm0, ← hcap0, ← hB0] at HO23
      subst hm0 hcap0 hB0
      obtain ⟨wo, hwo⟩ : ∃ wo : World, wo = wr := ⟨_, rfl⟩
      clear hwo
      go_wp2_with fail
      go_loopw [16, 17] (fun o i wr => ∃ (k m cap : Nat) (B : Option Addr), k ≤ n3 ∧ i = .int .i64 k ∧ o = .slice B m cap ∧ m ≤ k ∧ Hid (OwnC wr w3.heap.size B m cap ((SA.take k).filter (ofB row fam))) ∧ Hid (Below w3.heap.size w3 wr)) (fun _ i _ => n3 - (intOf i).toNat)
      case atStart => exact ⟨0, 0, 0, some ⟨w3.heap.size, 0, none⟩, Nat.zero_le _, rfl, rfl, Nat.le_refl _, Own.lit _ _ _ _ _ (Nat.le_refl _), (Below.refl _ _).alloc (Nat.le_refl _) _⟩
      case round =>
        obtain ⟨k, m, cap, B, hk, rfl, rfl, hm, HO, HBW⟩ := hrel
        by_cases hlt : k < n3
        · obtain ⟨c, bb, off, hc, hA2, hbl, hc8⟩ := rd8 ((HO3.out.below HBW.out).rd Cell.l_len) k hlt
          obtain ⟨k0, k1, k2, k3, k4, k5, k6, k7⟩ := hc8.get
          have htk : SA.take (k + 1) = SA.take k ++ [c] := by rw [List.take_add_one, hc]; rfl
          have HTK := Lib.hid htk
          have e1 := str_dec c.row row
          have e2 := str_dec c.fam fam
          subst hA2
          have hsz := HBW.out.size
          clear hc8 hc htk hbl
          by_cases hin : c.row = row ∧ c.fam = fam
          · obtain ⟨hr, hf⟩ := hin
            rw [decide_eq_true hr] at e1
            rw [decide_eq_true hf] at e2
            have he : Hid ((SA.take (k + 1)).filter (ofB row fam) = (SA.take k).filter (ofB row fam) ++ [c]) := by
              have e : [c].filter (ofB row fam) = [c] := by simp [ofB, hr, hf]
              unfold Hid
              rw [HTK.out, List.filter_append, e]
            clear hr hf HTK
            go_wp2_with (at_builtin; refine app_cell rfl (.tmp 102) (.tmp 107) rfl c rfl HO.out rfl rfl (by omega) hsz ?_; intro g6 cap6 w6 h1 h2 h3 h4)
            have hwb : ∀ x, B = some ⟨x, 0, none⟩ → w3.heap.size ≤ x := fun x hx => by
              rcases HO.out.shape with ⟨h, _⟩ | ⟨q, h, h5, _⟩
              · rw [h] at hx; cases hx
              · rw [h] at hx; injection hx with hx; injection hx with hx; omega
            have HBW6 := Lib.hid (HBW.out.trans (h2.below (B := w3.heap.size) hsz (fun i hi => hwb i hi)))
            rw [← he.out] at h1
            have HO6 := Lib.hid h1
            clear h1 h2 h3 h4 he hwb
            go_wp2
            go_roundw
            case rel => exact ⟨k + 1, m + 1, cap6, some ⟨g6, 0, none⟩, by omega, by go_num, rfl, by omega, HO6.out, HBW6.out⟩
            case measure => simp [intOf]; omega
          · have he : Hid ((SA.take (k + 1)).filter (ofB row fam) = (SA.take k).filter (ofB row fam)) := by
              have e : [c].filter (ofB row fam) = [] := by
                have : ofB row fam c = false := by
                  unfold ofB
                  rw [Bool.and_eq_false_iff]
                  by_cases hr : c.row = row
                  · exact .inr (decide_eq_false (fun hf => hin ⟨hr, hf⟩))
                  · exact .inl (decide_eq_false hr)
                simp [this]
              unfold Hid
              rw [HTK.out, List.filter_append, e, List.append_nil]
            have HO6 : Hid (OwnC wr w3.heap.size B m cap ((SA.take (k + 1)).filter (ofB row fam))) := by rw [he.out]; exact HO
            by_cases hr : c.row = row
            case' pos =>
              have hf : ¬ c.fam = fam := fun hf => hin ⟨hr, hf⟩
              rw [decide_eq_true hr] at e1
              rw [decide_eq_false hf] at e2
              clear hf
            case' neg =>
              rw [decide_eq_false hr] at e1
              clear e2
            all_goals
              clear hr hin he HTK HO
              go_wp2
              go_roundw
              case rel => exact ⟨k + 1, m, cap, B, by omega, by go_num, rfl, by omega, HO6.out, HBW.out⟩
              case measure => simp [intOf]; omega
        · obtain rfl : k = n3 := by omega
          have HW : Hid (OwnC wr w3.heap.size B m cap (SA.filter (ofB row fam))) := by
            have := HO.out
            rw [List.take_of_length_le (by rw [← HO3.out.1]; exact Nat.le_refl _)] at this
            exact Lib.hid this
          clear HO hlt
          have HO4 := Lib.hid (HO23.out.below HBW.out)
          have HB4 := Lib.hid (HB3.out.trans (HBW.out.mono HB3.out.size))
          have hmn := HO4.out.1
          have hmn2 : (xs.filter (ofB row fam)).length ≤ 60 := Nat.le_trans (List.length_filter_le _ _) (by rw [← HX.out.1.len]; exact hn)
          rw [← hmn] at hmn2
          have hs := Lib.hid (seen_all B0 m0 cap0 _ v life now wr (HO4.out.rd Cell.l_len) (by omega) (fun c hc => HX.out.2.1 c (List.mem_filter.1 hc).1) (tabs_below HT.out HB4.out) (.inr hrng))
          clear hmn
          go_wp2_with fail
          refine hs.out.mono ?_
          clear hs
          rintro e w5 ⟨A5, n5, c5, rfl, ho5, hb5⟩
          rw [seen_apart, ← HSA.out] at ho5
          have hl5 : n5 ≤ 60 := by
            rw [ho5.1]
            exact Nat.le_trans (List.length_filter_le _ _) (by rw [← HO3.out.1]; exact hl3)
          have hs := Lib.hid (same_calls A5 B n5 m c5 cap _ _ w5 (ho5.rd Cell.l_len) ((HW.out.below hb5).rd Cell.l_len) (by omega) (by omega))
          rw [decide_eq_true rfl] at hs
          have HB5 := Lib.hid (HB4.out.trans (hb5.mono HB4.out.size))
          clear ho5 hb5
          go_wp2_with fail
          refine hs.out.mono ?_
          clear hs
          rintro e w6 ⟨rfl, q6, hw6⟩
          have hb6 : Below w5.heap.size w5 w6 := by rw [hw6]; exact drewN_below w5 q6
          have HB6 := Lib.hid (HB5.out.trans (hb6.mono HB5.out.size))
          clear hw6 hb6
          go_wp2
          go_ret
          exact ⟨rfl, HB6.out⟩
end Go.Proofs.YtndmlldaebdnmaaDoor
