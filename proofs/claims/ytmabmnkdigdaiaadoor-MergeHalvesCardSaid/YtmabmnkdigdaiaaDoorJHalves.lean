/-
  MergeHalves, walked: whatever the cells and the row, it answers true and turns nothing that was there.
-/
import Derived.Test.YtmabmnkdigdaiaaDoorJAliveW
import Derived.Outline
namespace Go.Proofs.YtmabmnkdigdaiaaDoor
open Go.RowKit

theorem parts_len (at_ : ByteArray) (l : List Cell) : (belowC at_ l).length + (othersC at_ l).length = l.length := by
  unfold belowC othersC
  induction l with
  | nil => rfl
  | cons c l ih =>
    rw [List.filter_cons, List.filter_cons]
    by_cases h : cmpS c.row at_ < 0 <;> simp [h] <;> omega

set_option maxHeartbeats 2000000 in
theorem halves_calls (A : Option Addr) (n ca : Nat) (xs : List Cell) (row : ByteArray) (w : World) (hx : RdC w A n xs ∧ (∀ c ∈ xs, c.fits) ∧ (A = none → ca = 0) ∧ n ≤ ca ∧ ca ≤ 1466015503700) (hrow : row.size ≤ 140737488351232) (hT : Lib.Utf8Tabs 1 2 w) :
    Calls Tryd.prog 7 #[.slice A n ca, .string row] w fun e w' => e = .returned (.bool true) ∧ Below w.heap.size w w' := by
  obtain ⟨hx, hf, _, hnc, hcc⟩ := hx
  have HT := Lib.hid hT
  have HX := Lib.hid hx
  have HF := Lib.hid hf
  have hlen := Lib.hid hx.len
  clear hT hx hf
  have halive := Lib.hid (alive_calls w HT.out)
  cases hg : longC xs 60 with
  | true =>
    have hg := Lib.hid hg
    go_enter Tryd.func7, Tryd.ntmps7
    go_wp2_with fail
    refine halive.out.mono ?_; clear halive; rintro e w1 ⟨rfl, hb1⟩
    go_wp2_with fail
    refine (long_calls A n ca xs 60 w1 (HX.out.below hb1) (by omega)).mono ?_; rw [hg.out]; rintro e w2 ⟨rfl, rfl⟩
    go_wp2
    go_ret
    exact ⟨rfl, hb1⟩
  | false =>
    have hl60 : Hid (xs.length ≤ 60) := by
      unfold longC at hg
      rw [Bool.or_eq_false_iff] at hg
      have := of_decide_eq_false hg.1
      unfold Hid; omega
    have hg := Lib.hid hg
    by_cases h1 : (100 : Int) < (row.size : Int)
    · go_enter Tryd.func7, Tryd.ntmps7
      go_wp2_with fail
      refine halive.out.mono ?_; clear halive; rintro e w1 ⟨rfl, hb1⟩
      go_wp2_with fail
      refine (long_calls A n ca xs 60 w1 (HX.out.below hb1) (by omega)).mono ?_; rw [hg.out]; rintro e w2 ⟨rfl, rfl⟩
      go_wp2
      go_ret
      exact ⟨rfl, hb1⟩
    · have hd1 : decide ((100 : Int) < (row.size : Int)) = false := decide_eq_false h1
      have hd2 : decide (100 < row.size) = false := decide_eq_false (by omega)
      go_enter Tryd.func7, Tryd.ntmps7
      go_wp2_with fail
      refine halive.out.mono ?_; clear halive; rintro e w1 ⟨rfl, hb1⟩
      go_wp2_with fail
      refine (long_calls A n ca xs 60 w1 (HX.out.below hb1) (by omega)).mono ?_; rw [hg.out]; rintro e w2 ⟨rfl, rfl⟩
      have HT2 := Lib.hid (tabs_below HT.out hb1)
      go_wp2_with fail
      refine (rsort_calls A n ca xs _ (HX.out.below hb1) (by rw [hlen.out]; have := hl60.out; omega) HF.out).mono ?_
      rintro e w3 ⟨A3, n3, c3, rfl, hown3, hb3⟩
      obtain ⟨s, hs⟩ : ∃ s, s = sortC xs := ⟨_, rfl⟩
      rw [← hs] at hown3
      have hrs : Hid (Rises s) := by rw [hs]; exact sortC_rises xs
      have hok : Hid (∀ c ∈ s, c.ok = true) := by rw [hs]; exact sortC_ok xs
      have hfs : Hid (∀ c ∈ s, c.fits) := fun c hc => HF.out c (sortC_mem _ xs rfl c (by rw [← hs]; exact hc))
      have hls : Hid (s.length ≤ 60) := by have := sortC_len _ xs rfl; have := hl60.out; unfold Hid; rw [hs]; omega
      have hn3 : n3 = s.length := hown3.1
      have hn60 : n3 ≤ 60 := by rw [hn3]; exact hls.out
      have HN3 := Lib.hid hn3
      have HO3 := Lib.hid hown3
      have HB3 := Lib.hid (hb1.trans (hb3.mono hb1.size))
      have HT3 := Lib.hid (tabs_below HT2.out hb3)
      clear hs hown3 hb3 hn3 HT2
      go_wp2_with fail
      refine (split_calls A3 n3 c3 s row _ (HO3.out.rd Cell.l_len) (by omega)).mono ?_
      rintro e w4 ⟨A4, n4, c4, A5, n5, c5, rfl, hown4, hown5, hb4, _, _⟩
      have hn4 : n4 = (belowC row s).length := hown4.1
      have hn5 : n5 = (othersC row s).length := hown5.1
      have hsum : (n4 : Int) + (n5 : Int) = (n3 : Int) := by have := parts_len row s; have := HN3.out; omega
      have hsb : ((n4 : Int) + (n5 : Int) == (n3 : Int)) = true := by simpa using hsum
      have hle4 : n4 ≤ 60 := by omega
      have hle5 : n5 ≤ 60 := by omega
      have HO3' := Lib.hid (HO3.out.below hb4)
      have HO4 := Lib.hid hown4
      have HO5 := Lib.hid hown5
      have HB4 := Lib.hid (HB3.out.trans (hb4.mono HB3.out.size))
      have HT4 := Lib.hid (tabs_below HT3.out hb4)
      have HN4 := Lib.hid hn4
      have HS := Lib.hid hsum
      clear hown4 hown5 hb4 hn4 hn5 hsum HO3 HB3 HT3
      go_wp2_with fail
      go_loopw [8] (fun i wr => ∃ k q : Nat, k ≤ n4 ∧ i = .int .i64 k ∧ wr = w4.drewN q) (fun i _ => n4 - (intOf i).toNat)
      case atStart => exact ⟨0, 0, Nat.zero_le _, rfl, rfl⟩
      case round =>
        obtain ⟨k, q, hk, rfl, rfl⟩ := hrel
        by_cases hlt : k < n4
        · obtain ⟨c, b, off, hc, rfl, _, hc8⟩ := rd8 (HO4.out.rd Cell.l_len) k hlt
          have k0 := hc8.get.1
          have hm := List.mem_of_getElem? hc
          have hneg : cmpS c.row row < 0 := by
            unfold belowC at hm
            exact of_decide_eq_true (List.mem_filter.1 hm).2
          have hfit := Lib.hid (hfs.out c (by unfold belowC at hm; exact (List.mem_filter.1 hm).1))
          clear hc8 hc hm
          go_wp2_with (go_at_call 28; refine (texts_calls c.row row _ hfit.out.row hrow).mono ?_; rintro e w5 ⟨rfl, q2, rfl⟩)
          go_roundw
          case rel => exact ⟨k + 1, q + q2, by omega, by go_num, rfl⟩
          case measure => simp [intOf]; omega
        · obtain rfl : k = n4 := by omega
          have hbq := below_drewN w4 q
          generalize w4.drewN q = wr at *
          have HO3r := Lib.hid (HO3'.out.below hbq)
          have HO4r := Lib.hid (HO4.out.below hbq)
          have HO5r := Lib.hid (HO5.out.below hbq)
          have HB5 := Lib.hid (HB4.out.trans (hbq.mono HB4.out.size))
          have HT5 := Lib.hid (tabs_below HT4.out hbq)
          have hokb : Hid (∀ c ∈ belowC row s, c.ok = true ∧ c.fits) := fun c hc => by
            unfold belowC at hc
            exact ⟨hok.out c (List.mem_filter.1 hc).1, hfs.out c (List.mem_filter.1 hc).1⟩
          have hoko : Hid (∀ c ∈ othersC row s, c.ok = true ∧ c.fits) := fun c hc => by
            unfold othersC at hc
            exact ⟨hok.out c (List.mem_filter.1 hc).1, hfs.out c (List.mem_filter.1 hc).1⟩
          have hb1' : Hid (begC (belowC row s) = belowC row s) := begC_self (hrs.out.filter _) (fun c hc => (hokb.out c hc).1)
          have hb2' : Hid (begC (othersC row s) = othersC row s) := begC_self (hrs.out.filter _) (fun c hc => (hoko.out c hc).1)
          have hlb : Hid ((belowC row s).length ≤ 60) := by have := HN4.out; unfold Hid; omega
          have hlo : Hid ((othersC row s).length ≤ 60) := by have := parts_len row s; have := hls.out; unfold Hid; omega
          clear hbq HO3' HO4 HO5 HB4 HT4 hlt
          -- the first literal
          have hb6 := (Below.refl wr.heap.size wr).alloc (Nat.le_refl _) (.cells #[.slice A4 k c4, .slice A5 n5 c5] 23)
          have hlit := Lib.hid (rows_two (r := ⟨A4, k, c4, belowC row s⟩) (q := ⟨A5, n5, c5, othersC row s⟩) (heap_alloc_new wr (.cells #[.slice A4 k c4, .slice A5 n5 c5] 23)) (own_row (HO4r.out.below hb6) (by have := hlb.out; omega) (fun c hc => (hokb.out c hc).2)) (own_row (HO5r.out.below hb6) (by have := hlo.out; omega) (fun c hc => (hoko.out c hc).2)))
          have hbl : Hid (begL [⟨A4, k, c4, belowC row s⟩, ⟨A5, n5, c5, othersC row s⟩] = [belowC row s, othersC row s]) := by
            show [begC _, begC _] = _
            rw [hb1'.out, hb2'.out]
          have HO3s := Lib.hid (HO3r.out.below hb6)
          have HO4s := Lib.hid (HO4r.out.below hb6)
          have HO5s := Lib.hid (HO5r.out.below hb6)
          have HT6 := Lib.hid (tabs_below HT5.out hb6)
          have HB6 := Lib.hid (HB5.out.trans (hb6.mono HB5.out.size))
          clear hb6 HO3r HO4r HO5r HT5 HB5
          go_wp2_with fail
          refine (merge_calls _ _ _ _ _ hlit.out (by omega) (by rw [hbl.out]; unfold leftC; have := hlb.out; have := hlo.out; simp; omega) HT6.out).mono ?_
          rintro e w7 ⟨o7, hm7, A7, n7, c7, rfl, hown7, hb7⟩
          rw [hbl.out] at hm7
          have hfin7 : Hid (o7 = s) := merged_halves hrs.out (.inl hm7)
          have hn7 : Hid (n7 = o7.length) := hown7.1
          have HO7 := Lib.hid (hown7.rd Cell.l_len)
          have HO3t := Lib.hid (HO3s.out.below hb7)
          have HO4t := Lib.hid (HO4s.out.below hb7)
          have HO5t := Lib.hid (HO5s.out.below hb7)
          have HT7 := Lib.hid (tabs_below HT6.out hb7)
          have HB7 := Lib.hid (HB6.out.trans (hb7.mono HB6.out.size))
          clear hm7 hown7 hb7 hlit hbl HO3s HO4s HO5s HT6 HB6
          go_wp2_with fail
          refine (same_calls A7 A3 n7 n3 c7 c3 o7 s _ HO7.out (HO3t.out.rd Cell.l_len) (by rw [hn7.out, hfin7.out]; have := hls.out; omega) (by omega)).mono ?_
          rintro e w8 ⟨rfl, q8, rfl⟩
          rw [decide_eq_true hfin7.out]
          have hbq8 := below_drewN w7 q8
          generalize w7.drewN q8 = w8 at *
          have HO3u := Lib.hid (HO3t.out.below hbq8)
          have HO4u := Lib.hid (HO4t.out.below hbq8)
          have HO5u := Lib.hid (HO5t.out.below hbq8)
          have HB8 := Lib.hid (HB7.out.trans (hbq8.mono HB7.out.size))
          have HT8 := Lib.hid (tabs_below HT7.out hbq8)
          clear hbq8 HO3t HO4t HO5t HB7 HT7
          have hb9 := (Below.refl w8.heap.size w8).alloc (Nat.le_refl _) (.cells #[.slice A5 n5 c5, .slice A4 k c4] 23)
          have hlit := Lib.hid (rows_two (r := ⟨A5, n5, c5, othersC row s⟩) (q := ⟨A4, k, c4, belowC row s⟩) (heap_alloc_new w8 (.cells #[.slice A5 n5 c5, .slice A4 k c4] 23)) (own_row (HO5u.out.below hb9) (by have := hlo.out; omega) (fun c hc => (hoko.out c hc).2)) (own_row (HO4u.out.below hb9) (by have := hlb.out; omega) (fun c hc => (hokb.out c hc).2)))
          have hbl : Hid (begL [⟨A5, n5, c5, othersC row s⟩, ⟨A4, k, c4, belowC row s⟩] = [othersC row s, belowC row s]) := by
            show [begC _, begC _] = _
            rw [hb1'.out, hb2'.out]
          have HO3v := Lib.hid (HO3u.out.below hb9)
          have HT9 := Lib.hid (tabs_below HT8.out hb9)
          have HB9 := Lib.hid (HB8.out.trans (hb9.mono HB8.out.size))
          clear hb9 HO3u HO4u HO5u HT8 HB8
          go_wp2_with fail
          refine (merge_calls _ _ _ _ _ hlit.out (by omega) (by rw [hbl.out]; unfold leftC; have := hlb.out; have := hlo.out; simp; omega) HT9.out).mono ?_
          rintro e w10 ⟨o10, hm10, A10, n10, c10, rfl, hown10, hb10⟩
          rw [hbl.out] at hm10
          have hfin10 : Hid (o10 = s) := merged_halves hrs.out (.inr hm10)
          have hn10 : Hid (n10 = o10.length) := hown10.1
          have HO10 := Lib.hid (hown10.rd Cell.l_len)
          have HO3x := Lib.hid (HO3v.out.below hb10)
          have HB10 := Lib.hid (HB9.out.trans (hb10.mono HB9.out.size))
          clear hm10 hown10 hb10 hlit hbl HO3v HT9 HB9
          go_wp2_with fail
          refine (same_calls A10 A3 n10 n3 c10 c3 o10 s _ HO10.out (HO3x.out.rd Cell.l_len) (by rw [hn10.out, hfin10.out]; have := hls.out; omega) (by omega)).mono ?_
          rintro e w11 ⟨rfl, q11, rfl⟩
          rw [decide_eq_true hfin10.out]
          go_wp2
          go_ret
          exact ⟨rfl, HB10.out.trans ((below_drewN w10 q11).mono HB10.out.size)⟩
end Go.Proofs.YtmabmnkdigdaiaaDoor
