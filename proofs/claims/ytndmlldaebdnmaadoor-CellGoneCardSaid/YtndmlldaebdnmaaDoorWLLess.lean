/-
  CellLess, walked: it answers true and turns nothing that was there.
-/
import Derived.Test.YtndmlldaebdnmaaDoorWLaw
namespace Go.Proofs.YtndmlldaebdnmaaDoor
open Go.RowKit

theorem sub_skip {a b : List Cell} {i k : Nat} {c d : Cell} (hc : a[i]? = some c) (hd : b[k]? = some d) (hne : d ≠ c) (h : (a.drop i).Sublist (b.drop k)) : (a.drop i).Sublist (b.drop (k + 1)) := by
  obtain ⟨h1, rfl⟩ := List.getElem?_eq_some_iff.1 hc
  obtain ⟨h2, rfl⟩ := List.getElem?_eq_some_iff.1 hd
  rw [List.drop_eq_getElem_cons h1, List.drop_eq_getElem_cons h2] at h
  rw [List.drop_eq_getElem_cons h1]
  rcases List.sublist_cons_iff.1 h with h | ⟨r, e, h⟩
  · exact h
  · injection e with e _
    exact absurd e.symm hne
theorem sub_take {a b : List Cell} {i k : Nat} {c : Cell} (hc : a[i]? = some c) (hd : b[k]? = some c) (h : (a.drop i).Sublist (b.drop k)) : (a.drop (i + 1)).Sublist (b.drop (k + 1)) := by
  obtain ⟨h1, e1⟩ := List.getElem?_eq_some_iff.1 hc
  obtain ⟨h2, e2⟩ := List.getElem?_eq_some_iff.1 hd
  rw [List.drop_eq_getElem_cons h1, List.drop_eq_getElem_cons h2, e1, e2] at h
  exact List.cons_sublist_cons.1 h
theorem sub_end {a b : List Cell} {i k : Nat} (hi : i < a.length) (h : (a.drop i).Sublist (b.drop k)) : k < b.length := by
  rcases Nat.lt_or_ge k b.length with h1 | h1
  · exact h1
  · exfalso
    have := h.length_le
    rw [List.drop_eq_nil_of_le h1, List.length_drop] at this
    simp at this
    omega

attribute [local go_sem high] eqCell
set_option maxHeartbeats 4000000 in
set_option maxRecDepth 20000 in
theorem lless_calls (a : Option Addr) (n ca : Nat) (xs : List Cell) (v life now : Int) (w : World) (hx : ArgC w a n ca xs) (_ : isInt v) (_ : isInt life) (_ : isInt now) (hT : Lib.Utf8Tabs 0 1 w) :
    Calls Tryd.prog 8 #[.slice a n ca, .int .i64 v, .int .i64 life, .int .i64 now] w fun e w' => e = .returned (.bool true) ∧ Below w.heap.size w w' := by
  have HX := Lib.hid hx
  have HT := Lib.hid hT
  have hal := Lib.hid (alive_calls w hT)
  clear hx hT
  go_enter Tryd.func8, Tryd.ntmps8
  go_wp2_with fail
  refine hal.out.mono ?_
  clear hal
  rintro e w1 ⟨rfl, hb1⟩
  have hlong := Lib.hid (longl_calls a n ca xs w1 (HX.out.1.below hb1) (by have := HX.out.2.2.2; omega))
  have HB1 := Lib.hid hb1
  clear hb1
  go_wp2_with fail
  refine hlong.out.mono ?_
  clear hlong
  rintro e w2 ⟨rfl, hw⟩
  obtain rfl : w1 = w2 := hw.symm
  cases hl : longC xs 60 with
  | true =>
    go_wp2
    go_ret
    exact ⟨rfl, HB1.out⟩
  | false =>
  have hn : n ≤ 60 := by have := long_few hl; rw [HX.out.1.len]; exact this
  clear hl
  by_cases g1 : now < 0
  · go_wp2
    go_ret
    exact ⟨rfl, HB1.out⟩
  by_cases g2 : 1125899906842624 < now
  · go_wp2
    go_ret
    exact ⟨rfl, HB1.out⟩
  by_cases g3 : 1125899906842624 < life
  · go_wp2
    go_ret
    exact ⟨rfl, HB1.out⟩
  by_cases g4 : v < 1
  · go_wp2
    go_ret
    exact ⟨rfl, HB1.out⟩
  by_cases g5 : 7 < v
  · go_wp2
    go_ret
    exact ⟨rfl, HB1.out⟩
  have hrng : -1152921504606846976 ≤ now ∧ now ≤ 1152921504606846976 := by omega
  have HLESS := Lib.hid (seen_less (v := v) (life := life) (now := now) (l := xs) (by omega) (by omega))
  have hs := Lib.hid (seen_all a n ca xs v life now w1 (HX.out.1.below HB1.out) (by omega) HX.out.2.1 (tabs_below HT.out HB1.out) (.inr hrng))
  go_wp2_with fail
  refine hs.out.mono ?_
  clear hs
  rintro e w3 ⟨A3, n3, c3, rfl, ho3, hb3⟩
  have HO3 := Lib.hid ho3
  have HB3 := Lib.hid (HB1.out.trans (hb3.mono HB1.out.size))
  have hs := Lib.hid (seen_all a n ca xs (v + 1) life now w3 (HX.out.1.below HB3.out) (by omega) HX.out.2.1 (tabs_below HT.out HB3.out) (.inr hrng))
  clear ho3 hb3
  go_wp2_with fail
  refine hs.out.mono ?_
  clear hs
  rintro e w4 ⟨A4, n4, c4, rfl, ho4, hb4⟩
  obtain ⟨SA, hSA⟩ : ∃ SA, SA = seenL v life now xs := ⟨_, rfl⟩
  obtain ⟨SB, hSB⟩ : ∃ SB, SB = seenL (v + 1) life now xs := ⟨_, rfl⟩
  have HOA := Lib.hid ((HO3.out.below hb4).rd Cell.l_len)
  have HOB := Lib.hid (ho4.rd Cell.l_len)
  have HB4 := Lib.hid (HB3.out.trans (hb4.mono HB3.out.size))
  rw [← hSA] at HOA HLESS
  rw [← hSB] at HOB HLESS
  have hlen : n3 ≤ 60 ∧ n4 ≤ 60 := ⟨by rw [HOA.out.len, hSA]; exact Nat.le_trans (seenL_len v life now xs) (by rw [← HX.out.1.len]; exact hn), by rw [HOB.out.len, hSB]; exact Nat.le_trans (seenL_len (v + 1) life now xs) (by rw [← HX.out.1.len]; exact hn)⟩
  obtain ⟨hl3, hl4⟩ := hlen
  have HLA := Lib.hid HOA.out.len
  have HLB := Lib.hid HOB.out.len
  clear ho4 hb4 hSA hSB HO3 HB3 HB1 HX HT hn g1 g2 g3 g4 g5 hrng
  go_wp2_with fail
  go_loopw [11, 12] (fun kk ii wr => ∃ k i q : Nat, kk = .int .i64 k ∧ ii = .int .i64 i ∧ i ≤ n3 ∧ k ≤ n4 ∧ wr = w4.drewN q ∧ Hid ((SA.drop i).Sublist (SB.drop k))) (fun _ i _ => n3 - (intOf i).toNat)
  case atStart => exact ⟨0, 0, 0, rfl, rfl, Nat.zero_le _, Nat.zero_le _, rfl, HLESS.out.1⟩
  case round =>
    obtain ⟨k, i, q, rfl, rfl, hi, hk, rfl, HS⟩ := hrel
    by_cases hlt : i < n3
    · obtain ⟨c, bb, off, hc, rfl, _, hc8⟩ := rd8 HOA.out i hlt
      obtain ⟨k0, k1, k2, k3, k4, k5, k6, k7⟩ := hc8.get
      have HC := Lib.hid hc
      clear hc hc8
      go_wp2_with fail
      go_loopw [11] (fun kk wr => ∃ k q : Nat, kk = .int .i64 k ∧ k ≤ n4 ∧ wr = w4.drewN q ∧ Hid ((SA.drop i).Sublist (SB.drop k))) (fun k _ => n4 - (intOf k).toNat)
      case atStart => exact ⟨k, q, rfl, hk, rfl, HS⟩
      case round =>
        clear HS hk
        obtain ⟨k, q, rfl, hk, rfl, HS⟩ := hrel
        have hkl : k < n4 := by rw [HLB.out]; exact sub_end (by rw [← HLA.out]; exact hlt) HS.out
        obtain ⟨d, b4, off4, hd, rfl, _, hd8⟩ := rd8 HOB.out k hkl
        obtain ⟨l0, l1, l2, l3, l4, l5, l6, l7⟩ := hd8.get
        have HD := Lib.hid hd
        clear hd hd8
        cases heq : d.beq c with
        | true =>
          obtain rfl := (Cell.beq_iff d c).1 heq
          have HS2 := Lib.hid (sub_take HC.out HD.out HS.out)
          unfold Cell.beq at heq
          go_wp2
          go_quiet (fail)
          go_wp2
          go_roundw
          case rel => exact ⟨k + 1, i + 1, q + nq, by go_num, by go_num, by omega, by omega, rfl, HS2.out⟩
          case measure => simp [intOf]; omega
        | false =>
          have HS2 := Lib.hid (sub_skip HC.out HD.out (fun e => by rw [e, (Cell.beq_iff c c).2 rfl] at heq; cases heq) HS.out)
          unfold Cell.beq at heq
          go_wp2
          go_quiet (fail)
          go_wp2
          go_roundw
          case rel => exact ⟨k + 1, q + nq, by go_num, by omega, rfl, HS2.out⟩
          case measure => simp [intOf]; omega
    · have h2 : (n4 : Int) ≤ 2 * (n3 : Int) := by have := HLESS.out.2; have := HLA.out; have := HLB.out; omega
      have h3 : decide ((n4 : Int) ≤ 2 * (n3 : Int)) = true := decide_eq_true h2
      have HB5 := Lib.hid (HB4.out.trans ((drewN_below w4 q).mono HB4.out.size))
      go_wp2
      go_ret
      exact ⟨rfl, HB5.out⟩
end Go.Proofs.YtndmlldaebdnmaaDoor
