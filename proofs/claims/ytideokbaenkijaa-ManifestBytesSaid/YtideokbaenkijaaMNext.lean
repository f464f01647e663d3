/-
  sum.Next.
-/
import Derived.Test.YtideokbaenkijaaMFrameS
namespace Go.Proofs.Ytideokbaenkijaa
open Go.RowKit

theorem bytesof_inj {xs ys : List Int} (hx : Bytes xs) (hy : Bytes ys) : (Lib.bytesOf xs == Lib.bytesOf ys) = decide (xs = ys) := by
  rw [Bool.eq_iff_iff, beq_iff_eq, decide_eq_true_eq]
  constructor
  · intro h
    have hb : ∀ {l : List Int}, Bytes l → (Lib.bytesOf l).map (fun c => (c.toNat : Int)) = l := fun {l} hl => by
      unfold Lib.bytesOf
      rw [List.map_map]
      conv => rhs; rw [← List.map_id l]
      refine List.map_congr_left fun c hc => ?_
      have := hl c hc
      show ((UInt8.ofNat c.toNat).toNat : Int) = c
      rw [UInt8.toNat_ofNat']
      have : c.toNat % 2 ^ 8 = c.toNat := Nat.mod_eq_of_lt (by omega)
      omega
    rw [← hb hx, ← hb hy, h]
  · rintro rfl; rfl
theorem rdb_in {w : World} {A : Option Addr} {n : Nat} {xs : List Int} (h : RdB w A n xs) : Lib.BytesIn w A n xs := fun hn => by
  obtain ⟨c, b, o, _, rfl, _, _⟩ := h.get 0 hn
  refine ⟨b, o, rfl, fun i hi => ?_⟩
  obtain ⟨d, b', o', hd, e, _, h4⟩ := h.get i hi
  injection e with e
  injection e with e1 e2 _
  subst e1 e2
  have := h4 0 _ rfl
  rw [List.getD_eq_getElem?_getD, hd]
  simpa using this
/-- Next's answer. -/
def NextOut (xs : List Int) (w : World) (e : Ending) (w' : World) : Prop := Below w.heap.size w w' ∧ match nextL xs with
  | .torn => e = .returned (.tuple #[.slice none 0 0, .slice none 0 0, .int .i64 1])
  | .bad => e = .returned (.tuple #[.slice none 0 0, .slice none 0 0, .int .i64 2])
  | .whole x r => ∃ B n cap g gc, e = .returned (.tuple #[.slice B n cap, .slice (some ⟨g, 0, none⟩) r.length gc, .int .i64 0]) ∧ RdB w' B n x ∧ (B = none → cap = 0) ∧ (∀ a, B = some a → w.heap.size ≤ a.block ∧ a.block < w'.heap.size) ∧ OwnB w' w.heap.size (some ⟨g, 0, none⟩) r.length gc r ∧ n ≤ cap ∧ cap ≤ maxLen

set_option maxHeartbeats 2000000 in
set_option maxRecDepth 20000 in
theorem next_calls (b off n cap : Nat) (xs : List Int) (w : World) (hx : RdB w (some ⟨b, off, none⟩) n xs) (hb : Bytes xs) (hn : n ≤ 1000000) (hcap : n ≤ cap) (hcm : cap ≤ maxLen) :
    Calls Try.prog 50 #[.slice (some ⟨b, off, none⟩) n cap] w (NextOut xs w) := by
  have HBG := Lib.hid (begun_calls _ n cap xs w hx hb (by omega))
  have HX := Lib.hid hx
  have HBY := Lib.hid hb
  have HCM := Lib.hid hcm
  clear hx hb hcm
  go_enter Try.func50, Try.ntmps50
  go_wp2_with fail
  refine HBG.out.mono ?_
  rintro e w1 ⟨rfl, hb1⟩
  have HB1 := Lib.hid hb1
  by_cases hbe : begunL xs = true
  · rw [hbe]
    have HNX : Hid (nextL xs = .torn) := by unfold Hid nextL; rw [if_pos hbe]
    clear hb1 HBG hbe
    go_wp2_with fail
    go_ret3
    refine ⟨HB1.out, ?_⟩
    rw [HNX.out]
    rfl
  rw [Bool.not_eq_true] at hbe
  rw [hbe]
  have HTK := Lib.hid (take_calls b off n cap xs w1 (HX.out.below hb1) HBY.out hn hcap HCM.out)
  have HBE := Lib.hid hbe
  clear hb1 HBG hbe
  go_wp2_with fail
  refine HTK.out.mono ?_
  rintro e w2 ⟨hb2, ⟨ht, rfl⟩ | ⟨v, ys, g, c2, ht, hv, rfl, hown⟩⟩
  · have HNX : Hid (nextL xs = .bad) := by unfold Hid nextL; rw [HBE.out, ht]; rfl
    have HB2 := Lib.hid (HB1.out.trans (hb2.mono HB1.out.size))
    clear hb2 ht HTK
    go_wp2_with fail
    go_ret3
    refine ⟨HB2.out, ?_⟩
    rw [HNX.out]
    rfl
  have HB2 := Lib.hid (HB1.out.trans (hb2.mono HB1.out.size))
  by_cases hbig : 65536 < v
  · have HNX : Hid (nextL xs = .bad) := by unfold Hid nextL; rw [HBE.out, ht]; simp only [Bool.false_eq_true, if_false]; rw [if_pos hbig]
    have hgt : (v : Int) > 65536 := by omega
    clear hb2 ht HTK hown
    go_wp2_with fail
    go_ret3
    refine ⟨HB2.out, ?_⟩
    rw [HNX.out]
    rfl
  have hgt : ¬ (v : Int) > 65536 := by omega
  have hyl : ys.length ≤ 1000000 := by have := (take_less xs 0 0 ht).1; have := HX.out.len; omega
  obtain ⟨yl, hyl2⟩ : ∃ yl, yl = ys.length := ⟨_, rfl⟩
  rw [← hyl2] at hyl hown ⊢
  by_cases hsh : yl < v + 4
  · have HNX : Hid (nextL xs = .torn) := by unfold Hid nextL; rw [HBE.out, ht]; simp only [Bool.false_eq_true, if_false]; rw [if_neg hbig, if_pos (by omega)]
    have hlt : (yl : Int) < (v : Int) + 4 := by omega
    clear hb2 ht HTK hown hyl2
    go_wp2_with fail
    go_ret3
    refine ⟨HB2.out, ?_⟩
    rw [HNX.out]
    rfl
  have hlt : ¬ (yl : Int) < (v : Int) + 4 := by omega
  obtain ⟨hc1, hc2⟩ := own_cap hown
  have hne : ¬ c2 = v := by omega
  have HY := Lib.hid (hown.rd encB_len)
  have hyb : Bytes ys := by
    obtain ⟨_, p, hp⟩ := take_less xs 0 0 ht
    intro x hx
    exact HBY.out x (by rw [← hp]; exact List.mem_append_right _ hx)
  have HYB := Lib.hid hyb
  have hvc : v ≤ c2 := by omega
  have hw4 : IntKind.i64.wrap ((v : Int) + 4) = ((v + 4 : Nat) : Int) := by rw [wrap_i64_small _ (by omega) (by omega)]; omega
  have hvc4 : v + 4 ≤ c2 := by omega
  have hi1 : 0 ≤ (v : Int) + 4 := by omega
  have hi2 : (v : Int) + 4 ≤ (c2 : Int) := by omega
  have hi3 : ((v : Int) + 4).toNat = v + 4 := by omega
  have hi4 : v ≤ v + 4 := by omega
  have hi5 : v + 4 - v = 4 := by omega
  have hbd : Below w2.heap.size w2 w2.drew := below_drew1 w2
  have HEN := Lib.hid (ending_calls (some ⟨g, 0, none⟩) v c2 (ys.take v) w2.drew ((rd_take HY.out (by omega)).below hbd) (fun x hx => hyb x (List.mem_of_mem_take hx)) (by omega))
  have HY4 : Hid (RdB w2 (some ⟨g, v, none⟩) 4 ((ys.drop v).take 4)) := by
    have := rd_take (rdb_drop HY.out v) (k := 4) (by omega)
    rwa [Nat.zero_add] at this
  have hl4 : ((ys.drop v).take 4).length = 4 := by rw [List.length_take, List.length_drop]; omega
  have HL4 := Lib.hid hl4
  have hb4 : Bytes ((ys.drop v).take 4) := fun x hx => hyb x (List.mem_of_mem_drop (List.mem_of_mem_take hx))
  have HEQ := Lib.hid (bytesof_inj (endL_bytes (chkL (ys.take v))) hb4)
  have HBD := Lib.hid hbd
  have HOWN := Lib.hid hown
  have HYL := Lib.hid hyl2
  have HT := Lib.hid ht
  have hgl : g < w2.heap.size ∧ w1.heap.size ≤ g := by
    rcases hown.shape with ⟨h, _⟩ | ⟨y, h, h2, h3⟩
    · cases h
    · injection h with h; injection h with h; subst h; exact ⟨h3, h2⟩
  have HGL := Lib.hid hgl
  clear hown ht hyl2 hyb hb2 hl4 hb4 hgl HTK
  go_wp2_with fail
  go_region_law (go_simp; go_wp2_with (first
    | (go_at_call 64; refine HEN.out.mono ?_; rintro e w3 ⟨g3, c3, rfl, ho3, hb3⟩; have HO3 := Lib.hid ho3; have HB3 := Lib.hid (HBD.out.trans (hb3.mono HBD.out.size)); clear ho3 hb3)
    | (go_at_call 63; refine (Try.bytes_Equal_all (some ⟨g3, 0, none⟩) (some ⟨g, v, none⟩) 4 c3 4 _ (endL (chkL (ys.take v))) ((ys.drop v).take 4) w3 rfl HL4.out (rdb_in (HO3.out.rd encB_len)) (rdb_in (HY4.out.below HB3.out))).mono ?_; rintro e w4 ⟨rfl, rfl⟩)))
  all_goals
    have HB4 := Lib.hid (HB2.out.trans (HB3.out.mono HB2.out.size))
    have HY3 := Lib.hid (HY.out.below HB3.out)
    clear HEN hbd HY4 HO3 HX HBY
    by_cases heq : endL (chkL (ys.take v)) = (ys.drop v).take 4
    · have hq : (Lib.bytesOf (endL (chkL (ys.take v))) == Lib.bytesOf ((ys.drop v).take 4)) = true := by rw [HEQ.out]; exact decide_eq_true heq
      rw [hq]
      clear hq
      have HNX : Hid (nextL xs = .whole (ys.take v) (ys.drop (v + 4))) := by unfold Hid nextL; rw [HBE.out, HT.out]; simp only [Bool.false_eq_true, if_false]; rw [if_neg hbig, if_neg (by have := HYL.out; omega), if_pos heq]
      clear HEQ heq HL4
      have hyc : v + 4 ≤ yl := by omega
      have hi6 : v + 4 ≤ yl := hyc
      have hi7 : (v : Int) ≤ (v : Int) + 4 := by omega
      have hi8 : (v : Int) ≤ (c2 : Int) := by omega
      have hi9 : (v : Int) + 4 ≤ (yl : Int) := by omega
      have HBD4 : Hid (Below w4.heap.size w4 w4.drew) := below_drew1 w4
      by_cases hck : c2 = v + 4
      · have HYD : Hid (RdB w4.drew (some ⟨g, 0, none⟩) (yl - (v + 4)) (ys.drop (v + 4))) := by
          have e1 : yl - (v + 4) = 0 := by omega
          have e2 : ys.drop (v + 4) = [] := List.drop_eq_nil_of_le (by rw [← HYL.out]; omega)
          rw [e1, e2]
          exact Rd.nil _ _ _ _
        go_wp2_with fail
        go_region_law (go_simp; go_wp2_with (go_at_call 48; refine (bcl_calls _ (yl - (v + 4)) _ (ys.drop (v + 4)) _ HYD.out ⟨_, rfl⟩ (by omega)).mono ?_; rintro e w5 ⟨g5, c5, rfl, ho5, hb5⟩; have HO5 := Lib.hid ho5; have HB5 := Lib.hid (HBD4.out.trans (hb5.mono HBD4.out.size)); clear ho5 hb5))
        all_goals
          go_wp2_with fail
          go_ret3
          refine ⟨HB4.out.trans (HB5.out.mono HB4.out.size), ?_⟩
          rw [HNX.out]
          have hlen : (ys.drop (v + 4)).length = yl - (v + 4) := by rw [List.length_drop, ← HYL.out]
          have hz4 : w2.heap.size ≤ w4.heap.size := HB3.out.size
          have hz5 : w4.heap.size ≤ w5.heap.size := HB5.out.size
          have hz1 := HB1.out.size
          show ∃ B n cap g gc, _
          rw [hlen]
          exact ⟨some ⟨g, 0, none⟩, v, v, g5, c5, rfl, (rd_take HY3.out (by omega)).below HB5.out, (fun h => nomatch h), (fun a ha => by injection ha with ha; subst ha; have := HGL.out; exact ⟨by show w.heap.size ≤ g; omega, by show g < _; omega⟩), HO5.out.lower (Nat.le_trans HB4.out.size HBD4.out.size), Nat.le_refl _, by unfold maxLen; omega⟩
      · have HYD : Hid (RdB w4.drew (some ⟨g, v + 4, none⟩) (yl - (v + 4)) (ys.drop (v + 4))) := by
          have := rdb_drop HY3.out (v + 4)
          rw [Nat.zero_add] at this
          exact this.below HBD4.out
        go_wp2_with fail
        go_region_law (go_simp; go_wp2_with (go_at_call 48; refine (bcl_calls _ (yl - (v + 4)) _ (ys.drop (v + 4)) _ HYD.out ⟨_, rfl⟩ (by omega)).mono ?_; rintro e w5 ⟨g5, c5, rfl, ho5, hb5⟩; have HO5 := Lib.hid ho5; have HB5 := Lib.hid (HBD4.out.trans (hb5.mono HBD4.out.size)); clear ho5 hb5))
        all_goals
          go_wp2_with fail
          go_ret3
          refine ⟨HB4.out.trans (HB5.out.mono HB4.out.size), ?_⟩
          rw [HNX.out]
          have hlen : (ys.drop (v + 4)).length = yl - (v + 4) := by rw [List.length_drop, ← HYL.out]
          have hz4 : w2.heap.size ≤ w4.heap.size := HB3.out.size
          have hz5 : w4.heap.size ≤ w5.heap.size := HB5.out.size
          have hz1 := HB1.out.size
          show ∃ B n cap g gc, _
          rw [hlen]
          exact ⟨some ⟨g, 0, none⟩, v, v, g5, c5, rfl, (rd_take HY3.out (by omega)).below HB5.out, (fun h => nomatch h), (fun a ha => by injection ha with ha; subst ha; have := HGL.out; exact ⟨by show w.heap.size ≤ g; omega, by show g < _; omega⟩), HO5.out.lower (Nat.le_trans HB4.out.size HBD4.out.size), Nat.le_refl _, by unfold maxLen; omega⟩
    · have hq : (Lib.bytesOf (endL (chkL (ys.take v))) == Lib.bytesOf ((ys.drop v).take 4)) = false := by rw [HEQ.out]; exact decide_eq_false heq
      rw [hq]
      clear hq
      have HNX : Hid (nextL xs = .bad) := by unfold Hid nextL; rw [HBE.out, HT.out]; simp only [Bool.false_eq_true, if_false]; rw [if_neg hbig, if_neg (by have := HYL.out; omega), if_neg heq]
      clear HEQ heq HL4
      go_wp2_with fail
      go_ret3
      refine ⟨HB4.out, ?_⟩
      rw [HNX.out]
      rfl
end Go.Proofs.Ytideokbaenkijaa
