/-
  CodecRows, walked: whatever the cell and the row, it answers true and turns nothing that was there.
-/
import Derived.Test.YtonghiaocpenaaaDoorKAliveW
import Derived.Test.YtonghiaocpenaaaDoorKLawP
import Derived.Outline
namespace Go.Proofs.YtonghiaocpenaaaDoor
open Go.RowKit

/-- Does f begin k? As the law's loop tells it. -/
def beginsB (f k : List Int) : Bool := decide (f.length ≤ k.length) && decide (k.take f.length = f)
theorem begins_iff (f k : List Int) : beginsB f k = true ↔ ∃ r, f ++ r = k := by
  unfold beginsB
  rw [Bool.and_eq_true, decide_eq_true_eq, decide_eq_true_eq]
  constructor
  · rintro ⟨_, h⟩
    exact ⟨k.drop f.length, by have := List.take_append_drop f.length k; rw [h] at this; exact this⟩
  · rintro ⟨r, rfl⟩
    exact ⟨by simp, by simp⟩
theorem begins_key (row : ByteArray) (c : Cell) : beginsB (firstL row) (keyL c) = decide (row = c.row) := by
  rw [Bool.eq_iff_iff, begins_iff, first_key, decide_eq_true_eq]

attribute [local go_sem high] eqCell
set_option maxHeartbeats 4000000 in
set_option maxRecDepth 20000 in
theorem rows_calls (c : Cell) (row : ByteArray) (w : World) (hc : c.fits) (hrow : row.size ≤ 140737488351232) (hG : Ground w) :
    Calls Tryd.prog 5 #[c.v, .string row] w fun e w' => e = .returned (.bool true) ∧ Below w.heap.size w w' := by
  have HG := Lib.hid hG
  have HC := Lib.hid hc
  have HR := Lib.hid hrow
  obtain ⟨hB0, cb⟩ := one_box w c.cells 25
  obtain ⟨W0, hW0⟩ : ∃ W0, W0 = w.alloc (.cells c.cells 25) := ⟨_, rfl⟩
  have halive := Lib.hid (alive_calls _ (hG.below hB0))
  rw [← hW0] at halive hB0 cb
  have HB0 := Lib.hid hB0
  have HA0 := Lib.hid cb
  have HW0 := Lib.hid hW0
  clear hG hc hrow hB0 cb hW0
  go_enter Tryd.func5, Tryd.ntmps5
  go_wp2_with fail
  rw [← HW0.out]
  refine halive.out.mono ?_; clear halive; rintro e w1 ⟨rfl, hb1⟩
  have HA1 := Lib.hid (cells_below hb1 HA0.out)
  have HB1 := Lib.hid (HB0.out.trans (hb1.mono HB0.out.size))
  clear hb1 HA0 HW0 HB0
  obtain ⟨a0, a1, a2, a3, a4, a5, a6, a7⟩ := cells_get HA1.out
  have hlt := lt_of_cell a0
  go_wp2_with fail
  obtain ⟨w2, hw2⟩ : ∃ w2, w2 = w1.alloc (.cells c.cells 25) := ⟨_, rfl⟩
  have hb2 : Below w1.heap.size w1 w2 := by rw [hw2]; exact (Below.refl _ _).alloc (Nat.le_refl _) _
  have hblk : w2.heap[w1.heap.size]? = some (.cells c.cells 25) := by rw [hw2, heap_alloc_new]
  have HA2 := Lib.hid (cells_below hb2 HA1.out)
  have HB2 := Lib.hid (HB1.out.trans (hb2.mono HB1.out.size))
  have hlong := Lib.hid (longl_calls _ 1 1 [c] w2 (rd_block hblk [c] rfl Cell.l_len) (by omega))
  have HW2 := Lib.hid hw2
  clear hblk hb2 hw2 a0 a1 a2 a3 a4 a5 a6 a7 HA1 HB1 hlt
  rw [← HW2.out]
  refine hlong.out.mono ?_
  clear hlong HW2
  rintro e w3 ⟨rfl, rfl⟩
  cases hl : longC [c] 10 with
  | true =>
    go_wp2
    go_ret
    exact ⟨rfl, HB2.out⟩
  | false =>
    clear hl
    by_cases h100 : (100 : Int) < (row.size : Int)
    · go_wp2
      go_ret
      exact ⟨rfl, HB2.out⟩
    obtain ⟨a0, a1, a2, a3, a4, a5, a6, a7⟩ := cells_get HA2.out
    go_wp2_with fail
    refine (right_calls c w3 HC.out (HG.out.below HB2.out).tabs).mono ?_
    rintro e w4 ⟨rfl, hb4⟩
    have HA4 := Lib.hid (cells_below hb4 HA2.out)
    have HB4 := Lib.hid (HB2.out.trans (hb4.mono HB2.out.size))
    clear hb4 HA2 HB2 a0 a1 a2 a3 a4 a5 a6 a7
    cases hok : c.ok with
    | false =>
      go_wp2
      go_ret
      exact ⟨rfl, HB4.out⟩
    | true =>
      have HOK := Lib.hid hok
      clear hok
      obtain ⟨a0, a1, a2, a3, a4, a5, a6, a7⟩ := cells_get HA4.out
      go_wp2_with fail
      refine (ckey_calls c w4 HC.out (HG.out.below HB4.out)).mono ?_
      rintro e w5 ⟨hb5, ⟨_, A, n, cap, rfl, hown⟩ | ⟨hok, _⟩⟩
      case inr => rw [HOK.out] at hok; cases hok
      have HA5 := Lib.hid (cells_below hb5 HA4.out)
      have HB5 := Lib.hid (HB4.out.trans (hb5.mono HB4.out.size))
      have HO5 := Lib.hid hown
      clear hb5 HA4 HB4 a0 a1 a2 a3 a4 a5 a6 a7 hown
      go_wp2_with fail
      refine (first_calls row w5 (by omega)).mono ?_
      rintro e w6 ⟨g, m, cap6, rfl, hown6, hb6⟩
      have HX := Lib.hid ((HO5.out.below hb6).rd encB_len)
      have HY := Lib.hid (hown6.rd encB_len)
      have HA6 := Lib.hid (cells_below hb6 HA5.out)
      have HB6 := Lib.hid (HB5.out.trans (hb6.mono HB5.out.size))
      clear hb6 hown6 HO5 HA5 HB5
      have hkey := Lib.hid (begins_key row c)
      obtain ⟨ks, hks⟩ : ∃ ks, ks = keyL c := ⟨_, rfl⟩
      obtain ⟨fs, hfs⟩ : ∃ fs, fs = firstL row := ⟨_, rfl⟩
      have hn : n ≤ 200 := by rw [HX.out.len]; exact key_small HOK.out
      have hm : m ≤ 300 := by have h1 := HY.out.len; have h2 := esc_size row; unfold firstL at h1; omega
      rw [← hks, ← hfs] at hkey
      rw [← hks] at HX
      rw [← hfs] at HY
      clear hks hfs
      have hstart : Hid ((decide (m ≤ n) = true ∧ m ≤ n ∧ fs.take 0 = ks.take 0) ∨ (decide (m ≤ n) = false ∧ beginsB fs ks = false)) := by
        by_cases hmn : m ≤ n
        · exact .inl ⟨decide_eq_true hmn, hmn, rfl⟩
        · refine .inr ⟨decide_eq_false hmn, ?_⟩
          unfold beginsB
          rw [← HY.out.len, ← HX.out.len, decide_eq_false hmn]; rfl
      go_wp2_with fail
      go_loopw [8, 9] (fun bg i wr => ∃ (b : Bool) (k q : Nat), k ≤ m ∧ bg = .bool b ∧ i = .int .i64 k ∧ wr = w6.drewN q ∧ Hid ((b = true ∧ m ≤ n ∧ fs.take k = ks.take k) ∨ (b = false ∧ beginsB fs ks = false))) (fun _ i _ => m - (intOf i).toNat)
      case atStart => exact ⟨_, 0, 0, Nat.zero_le _, rfl, rfl, rfl, hstart⟩
      case round =>
        obtain ⟨b, k, q, hk, rfl, rfl, rfl, hst⟩ := hrel
        clear hstart
        cases b with
        | false =>
          have hbf : Hid (beginsB fs ks = false) := by
            rcases hst.out with ⟨h, _⟩ | ⟨_, h⟩
            · cases h
            · exact h
          clear hst
          have HAq := Lib.hid (cells_below (drewN_below w6 q) HA6.out)
          have HBq := Lib.hid (HB6.out.trans ((drewN_below w6 q).mono HB6.out.size))
          have hkk := hkey.out
          rw [hbf.out] at hkk
          have hne : ¬ row = c.row := of_decide_eq_false hkk.symm
          have hs1 : (row.toList == c.row.toList) = false := by rw [str_beq]; exact decide_eq_false hne
          clear hkk hne hbf hkey HX HY HA6 HB6
          generalize w6.drewN q = W at *
          obtain ⟨a0, a1, a2, a3, a4, a5, a6, a7⟩ := cells_get HAq.out
          by_cases hlt : k < m
          · go_wp2
            go_ret
            exact ⟨rfl, HBq.out⟩
          · go_wp2
            go_ret
            exact ⟨rfl, HBq.out⟩
        | true =>
          have HMN : Hid (m ≤ n) := by
            rcases hst.out with ⟨_, h, _⟩ | ⟨h, _⟩
            · exact h
            · cases h
          have htk : Hid (fs.take k = ks.take k) := by
            rcases hst.out with ⟨_, _, h⟩ | ⟨h, _⟩
            · exact h
            · cases h
          clear hst
          by_cases hlt : k < m
          · have hkn : k < n := by have := HMN.out; omega
            obtain ⟨x, b1, o1, hx1, e1, _, hx8⟩ := HY.out.get k hlt
            injection e1 with e1
            injection e1 with e1 e2 _
            subst e1; subst e2
            obtain ⟨y, b2, o2, hy1, rfl, _, hy8⟩ := HX.out.get k (by have := HMN.out; omega)
            have k0 : w6.cell? ⟨g, k, none⟩ = some (.int .u8 x) := by have := hx8 0 _ rfl; simpa using this
            have l0 : w6.cell? ⟨b2, o2 + k, none⟩ = some (.int .u8 y) := by have := hy8 0 _ rfl; simpa using this
            clear hx8 hy8
            have HC1 := Lib.hid hx1
            have HD1 := Lib.hid hy1
            clear hx1 hy1
            by_cases hxy : x = y
            · have hn1 : (x == y) = true := by simp [hxy]
              have HXY := Lib.hid hxy
              clear hxy
              go_wp2
              go_quiet (fail)
              go_wp2
              go_roundw
              case rel =>
                refine ⟨true, k + 1, q + nq, by omega, rfl, by go_num, rfl, .inl ⟨rfl, HMN.out, ?_⟩⟩
                rw [List.take_add_one, List.take_add_one, HC1.out, HD1.out, htk.out, HXY.out]
              case measure => simp [intOf]; omega
            · have hn1 : (x == y) = false := by simp [hxy]
              have HB1 : Hid (beginsB fs ks = false) := by
                cases hb : beginsB fs ks with
                | false => rfl
                | true =>
                  obtain ⟨r, hr⟩ := (begins_iff fs ks).1 hb
                  have h1 := HC1.out
                  have h2 := HD1.out
                  rw [← hr, List.getElem?_append_left (List.getElem?_eq_some_iff.1 h1).1, h1] at h2
                  exact absurd (Option.some.inj h2) hxy
              clear hxy
              go_wp2
              go_quiet (fail)
              go_wp2
              go_roundw
              case rel => exact ⟨false, k + 1, q + nq, by omega, rfl, by go_num, rfl, .inr ⟨rfl, HB1.out⟩⟩
              case measure => simp [intOf]; omega
          · obtain rfl : k = m := by omega
            have hbt : Hid (beginsB fs ks = true) := by
              unfold Hid beginsB
              have h1 := htk.out
              rw [HY.out.len, List.take_length] at h1
              rw [← h1, decide_eq_true rfl, ← HY.out.len, ← HX.out.len, decide_eq_true HMN.out]; rfl
            clear htk
            have HAq := Lib.hid (cells_below (drewN_below w6 q) HA6.out)
            have HBq := Lib.hid (HB6.out.trans ((drewN_below w6 q).mono HB6.out.size))
            have hkk := hkey.out
            rw [hbt.out] at hkk
            have hne : row = c.row := of_decide_eq_true hkk.symm
            have hs1 : (row.toList == c.row.toList) = true := by rw [str_beq]; exact decide_eq_true hne
            clear hkk hne hbt hkey HX HY HA6 HB6
            generalize w6.drewN q = W at *
            obtain ⟨a0, a1, a2, a3, a4, a5, a6, a7⟩ := cells_get HAq.out
            go_wp2
            go_ret
            exact ⟨rfl, HBq.out⟩
end Go.Proofs.YtonghiaocpenaaaDoor
