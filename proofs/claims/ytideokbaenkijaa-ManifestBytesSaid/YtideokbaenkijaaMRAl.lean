/-
  joistref00.CopyBytes, joistref03.Take: the same number as the program's.
  joistref04.open, Next.
  joistref04.All.
-/
import Derived.Test.YtideokbaenkijaaMTake
import Derived.Test.YtideokbaenkijaaMRef
import Derived.Test.YtideokbaenkijaaMHelp
import Derived.Test.YtideokbaenkijaaMNext
import Derived.Test.YtideokbaenkijaaMAll
namespace Go.Proofs.Ytideokbaenkijaa
open Go.RowKit

set_option maxRecDepth 20000 in
theorem copyb_calls (A : Option Addr) (n ca : Nat) (xs : List Int) (w : World) (hx : RdB w A n xs) (hA : A = none → ca = 0) (hn : n ≤ 10000000) :
    Calls Try.prog 49 #[.slice A n ca] w fun e w' => ∃ g cap, e = .returned (.slice (some ⟨g, 0, none⟩) n cap) ∧ OwnB w' w.heap.size (some ⟨g, 0, none⟩) n cap xs ∧ Below w.heap.size w w' := by
  have hlit := Own.lit 5 1 encB w w.heap.size (Nat.le_refl _)
  have hbl : Below w.heap.size w (w.alloc (.cells #[] 5)) := (Below.refl _ _).alloc (Nat.le_refl _) _
  have HX := Lib.hid (hx.below hbl)
  have HL := Lib.hid hlit
  have HB := Lib.hid hbl
  have HA := Lib.hid hA
  clear hlit hbl hx hA
  go_enter Try.func49, Try.ntmps49
  go_wp2_with (at_builtin; refine app_bytes rfl (.tmp 5) (.tmp 6) rfl rfl HL.out rfl HA.out HX.out (by omega) HB.out.size ?_; intro A' cap' w4 h1 h2 h3 h4)
  go_wp2
  go_ret
  rw [Nat.zero_add] at h1
  cases A' with
  | none => exact absurd (h4 rfl) (by simp)
  | some a' =>
    rcases h1.shape with ⟨e, _⟩ | ⟨g, e, e2, _⟩
    · cases e
    · injection e with e; subst e
      refine ⟨g, cap', rfl, h1, HB.out.trans (h2.below HB.out.size (fun i hi => by injection hi with hi; injection hi with hi; omega))⟩

theorem pow_le {k : Nat} (h : k ≤ 8) : 128 ^ k ≤ 72057594037927936 := by
  have h1 : (128 : Nat) ^ k ≤ 128 ^ 8 := Nat.pow_le_pow_right (by decide) h
  exact Nat.le_trans h1 (by decide)
theorem place_next {k P : Nat} (hP : P = 128 ^ k) : k + 1 ≤ 8 → wrap64 ((P : Int) * 128) = ((128 ^ (k + 1) : Nat) : Int) := by
  intro h
  have h1 : (128 : Nat) ^ k ≤ 128 ^ 7 := Nat.pow_le_pow_right (by decide) (by omega)
  have h2 : (128 : Nat) ^ 7 = 562949953421312 := rfl
  rw [Nat.pow_succ, ← hP]
  rw [← hP, h2] at h1
  clear hP
  unfold wrap64
  omega

set_option maxHeartbeats 2000000 in
set_option maxRecDepth 20000 in
theorem qtake_calls (A : Option Addr) (n cap : Nat) (xs : List Int) (w : World) (hx : RdB w A n xs) (hb : Bytes xs) (hn : n ≤ 1000000) (hA : A = none → cap = 0) (hcap : n ≤ cap) (hcm : cap ≤ maxLen) :
    Calls Try.prog 33 #[.slice A n cap] w (TakeOut xs w) := by
  have HX := Lib.hid hx
  have HBY := Lib.hid hb
  have HL := Lib.hid hx.len
  have HA := Lib.hid hA
  have HCM := Lib.hid hcm
  clear hx hb hA hcm
  go_enter Try.func33, Try.ntmps33
  go_wp2_with fail
  go_loopw [5, 6, 7] (fun nv pl i wr => ∃ (k acc : Nat) (pv : Int), k ≤ n ∧ k ≤ 9 ∧ i = .int .i64 k ∧ nv = .int .i64 acc ∧ pl = .int .i64 pv ∧ wr = w ∧ Hid (acc < 128 ^ k) ∧ Hid (k ≤ 8 → pv = ((128 ^ k : Nat) : Int)) ∧ Hid (takeV k acc (xs.drop k) = takeV 0 0 xs)) (fun _ _ i _ => n - (intOf i).toNat)
  case atStart => exact ⟨0, 0, 1, Nat.zero_le _, by omega, rfl, rfl, rfl, rfl, by show (0 : Nat) < 128 ^ 0; decide, fun _ => rfl, rfl⟩
  case round =>
    obtain ⟨k, acc, pv, hk, hk9, rfl, rfl, rfl, rfl, HACC, HPV, HT⟩ := hrel
    by_cases hlt : k < n
    · by_cases h9 : k < 9
      · obtain ⟨c, b, off, hc, rfl, hbl, hc1⟩ := HX.out.get k hlt
        have k0 : wr.cell? ⟨b, off + k, none⟩ = some (.int .u8 c) := by have := hc1 0 _ rfl; simpa using this
        have hcb := HBY.out.at hc
        obtain ⟨hcb0, hcb1⟩ := hcb
        obtain ⟨P, hP⟩ : ∃ P : Nat, P = 128 ^ k := ⟨_, rfl⟩
        have hP8 : P ≤ 72057594037927936 := by rw [hP]; exact pow_le (by omega)
        have hpv : pv = (P : Int) := by rw [HPV.out (by omega), hP]
        subst hpv
        have hacc : acc < P := by rw [hP]; exact HACC.out
        obtain ⟨D, hD⟩ : ∃ D : Nat, D = (c % 128).toNat * P := ⟨_, rfl⟩
        have hD1 : D ≤ 127 * P := by rw [hD]; exact Nat.mul_le_mul_right _ (by omega)
        have hmul : c % 128 * (P : Int) = (D : Int) := by
          rw [hD]
          have : ((c % 128).toNat : Int) = c % 128 := by omega
          rw [Int.natCast_mul, this]
        have hdrop : xs.drop k = c :: xs.drop (k + 1) := by
          rw [List.drop_eq_getElem_cons (by rw [← HL.out]; exact hlt)]
          congr 1
          have := hc
          rw [List.getElem?_eq_getElem (by rw [← HL.out]; exact hlt)] at this
          exact Option.some.inj this
        have HSTEP := HT.out
        rw [hdrop, takeV, if_neg (by omega)] at HSTEP
        have HPK := Lib.hid hP
        have HDD := Lib.hid hD
        have HACC2 := Lib.hid hacc
        clear hP hD hc hc1 hdrop HT HACC HPV
        by_cases h128 : c < 128
        · rw [if_neg (by omega)] at HSTEP
          have HCC : Hid (D = c.toNat * P) := by unfold Hid; rw [HDD.out, show c % 128 = c by omega]
          have hms : n - (k + 1) ≤ n := Nat.sub_le _ _
          by_cases hz : 0 < k ∧ c = 0
          · rw [if_pos hz] at HSTEP
            have HN := Lib.hid HSTEP.symm
            obtain ⟨hz1, rfl⟩ := hz
            clear HSTEP HX
            go_wp2_with fail
            go_ret3
            exact ⟨Below.refl _ _, .inl ⟨HN.out, rfl⟩⟩
          · rw [if_neg hz] at HSTEP
            have HN := Lib.hid HSTEP.symm
            have hzz : k = 0 ∨ (0 < k ∧ ¬ c = 0) := by omega
            have HE : Hid (acc + c.toNat * 128 ^ k = acc + D) := by unfold Hid; rw [HCC.out, HPK.out]
            have hkn : k + 1 ≤ n := hlt
            have HLL : Hid (n - (k + 1) = (xs.drop (k + 1)).length) := by unfold Hid; rw [List.length_drop, HL.out]
            have hkk : (k : Int) + 1 ≤ (n : Int) := by omega
            have HV : Hid (acc + D < 9223372036854775808) := by unfold Hid; omega
            have hoo : ∃ oo, (if cap = k + 1 then some (⟨b, off, none⟩ : Addr) else some ⟨b, off + (k + 1), none⟩) = some ⟨b, oo, none⟩ ∧ RdB wr (some ⟨b, oo, none⟩) (n - (k + 1)) (xs.drop (k + 1)) := by
              by_cases hck : cap = k + 1
              · refine ⟨off, if_pos hck, ?_⟩
                rw [show n - (k + 1) = 0 by omega, List.drop_eq_nil_of_le (by rw [← HL.out]; omega)]
                exact Rd.nil _ _ _ _
              · exact ⟨off + (k + 1), if_neg hck, rdb_drop HX.out (k + 1)⟩
            obtain ⟨oo, hoo1, hoo2⟩ := hoo
            have HCP := Lib.hid (copyb_calls (some ⟨b, oo, none⟩) (n - (k + 1)) (cap - (k + 1)) (xs.drop (k + 1)) wr hoo2 (fun h => by cases h) (by omega))
            clear HSTEP HX hoo2 hz HCC HDD
            rcases hzz with rfl | ⟨hk0, hc0⟩
            · have kz : wr.cell? ⟨b, off, none⟩ = some (.int .u8 c) := by simpa using k0
              clear k0
              simp only [Nat.zero_add] at hoo1 HCP HN HE HLL hkn
              go_wp2_with fail
              refine HCP.out.mono ?_
              rintro e w2 ⟨g, cp, rfl, hown, hbw⟩
              have HBW := Lib.hid hbw
              have HOW := Lib.hid hown
              clear hown hbw HCP
              go_wp2_with fail
              go_ret3
              refine ⟨HBW.out, .inr ⟨acc + D, xs.drop 1, g, cp, by rw [HN.out, HE.out], HV.out, by rw [← HLL.out]; rfl, ?_⟩⟩
              rw [← HLL.out]
              exact HOW.out
            · have hcz : (c == 0) = false := by simpa using hc0
              have hki : (k : Int) > 0 := Int.natCast_pos.2 hk0
              clear hc0
              go_wp2_with fail
              refine HCP.out.mono ?_
              rintro e w2 ⟨g, cp, rfl, hown, hbw⟩
              have HBW := Lib.hid hbw
              have HOW := Lib.hid hown
              clear hown hbw HCP
              go_wp2_with fail
              go_ret3
              refine ⟨HBW.out, .inr ⟨acc + D, xs.drop (k + 1), g, cp, by rw [HN.out, HE.out], HV.out, by rw [← HLL.out]; rfl, ?_⟩⟩
              rw [← HLL.out]
              exact HOW.out
        · rw [if_pos (by omega)] at HSTEP
          have HN := Lib.hid HSTEP
          have HPL := Lib.hid (place_next HPK.out)
          have HLT2 : Hid (acc + D < 128 ^ (k + 1)) := by unfold Hid; rw [Nat.pow_succ, ← HPK.out]; omega
          have HE : Hid (acc + (c % 128).toNat * 128 ^ k = acc + D) := by unfold Hid; rw [HDD.out, HPK.out]
          have hms : n - (k + 1) < n - k := Nat.sub_lt_sub_left hlt (Nat.lt_succ_self k)
          have hk1 : k + 1 ≤ 9 := by omega
          clear HSTEP HX HDD HPK HACC2
          go_wp2_with (first
            | (go_roundw
               case rel =>
                 refine ⟨k + 1, acc + D, wrap64 ((P : Int) * 128), hlt, hk1, by go_num, by go_num, rfl, trivial, HLT2.out, HPL.out, ?_⟩
                 unfold Hid
                 rw [← HN.out, HE.out]
               case measure => simp [intOf]; exact hms)
            | fail)
      · obtain rfl : k = 9 := by omega
        have HN : Hid (takeV 0 0 xs = none) := by
          unfold Hid
          rw [← HT.out]
          cases xs.drop 9 with
          | nil => rfl
          | cons c l => rw [takeV, if_pos (by omega)]
        clear HX HT HACC HPV
        go_wp2_with fail
        go_ret3
        exact ⟨Below.refl _ _, .inl ⟨HN.out, rfl⟩⟩
    · obtain rfl : k = n := by omega
      have HN : Hid (takeV 0 0 xs = none) := by
        unfold Hid
        rw [← HT.out, List.drop_eq_nil_of_le (by rw [HL.out]; exact Nat.le_refl _)]
        rfl
      clear HX HT HACC HPV
      go_wp2_with fail
      go_ret3
      exact ⟨Below.refl _ _, .inl ⟨HN.out, rfl⟩⟩
end Go.Proofs.Ytideokbaenkijaa
namespace Go.Proofs.Ytideokbaenkijaa
open Go.RowKit

set_option maxHeartbeats 1000000 in
set_option maxRecDepth 20000 in
theorem ropen_calls (A : Option Addr) (n ca : Nat) (xs : List Int) (w : World) (hx : RdB w A n xs) (hn : n ≤ 100000000) :
    Calls Try.prog 65 #[.slice A n ca] w fun e w' => e = .returned (.bool (begunL xs)) ∧ Below w.heap.size w w' := by
  have HX := Lib.hid hx
  have HL := Lib.hid hx.len
  clear hx
  go_enter Try.func65, Try.ntmps65
  go_wp2_with fail
  go_loopw [3] (fun iv wr => ∃ k : Nat, k ≤ n ∧ iv = .int .i64 k ∧ wr = w ∧ Hid (∀ i c, i < k → xs[i]? = some c → 128 ≤ c)) (fun iv _ => n - (intOf iv).toNat)
  case atStart => exact ⟨0, Nat.zero_le _, rfl, rfl, fun i c h => absurd h (Nat.not_lt_zero _)⟩
  case round =>
    obtain ⟨k, hk, rfl, rfl, HA⟩ := hrel
    by_cases hlt : k < n
    · obtain ⟨c, b, off, hc, rfl, _, hc1⟩ := HX.out.get k hlt
      have k0 : wr.cell? ⟨b, off + k, none⟩ = some (.int .u8 c) := by have := hc1 0 _ rfl; simpa using this
      have HC := Lib.hid hc
      clear hc hc1
      by_cases h128 : c < 128
      · have HF : Hid (begunL xs = false) := by
          unfold Hid begunL
          have : xs.all (fun c => decide (128 ≤ c)) = false := by
            rw [← Bool.not_eq_true, List.all_eq_true]
            intro h
            have := of_decide_eq_true (h c (List.mem_of_getElem? HC.out))
            omega
          rw [this, Bool.and_false]
        go_wp2_with fail
        go_ret
        exact ⟨ret_bool (by rw [HF.out]), Below.refl _ _⟩
      · have hms : n - (k + 1) < n - k := Nat.sub_lt_sub_left hlt (Nat.lt_succ_self k)
        have hge : 128 ≤ c := by omega
        have HGE := Lib.hid hge
        clear hge
        go_wp2_with (first
          | (go_roundw
             case rel =>
               refine ⟨k + 1, hlt, by go_num, trivial, fun i d hi hd => ?_⟩
               rcases Nat.lt_succ_iff_lt_or_eq.1 hi with h | h
               · exact HA.out i d h hd
               · subst h
                 rw [HC.out] at hd
                 injection hd with hd
                 subst hd
                 exact HGE.out
             case measure => simp [intOf]; exact hms)
          | fail)
    · have hall : xs.all (fun c => decide (128 ≤ c)) = true := List.all_eq_true.2 fun c hc => by
        obtain ⟨i, hi⟩ := List.getElem?_of_mem hc
        exact decide_eq_true (HA.out i c (by have := (List.getElem?_eq_some_iff.1 hi).1; have := HL.out; omega) hi)
      have HF : Hid (begunL xs = decide (n ≤ 8)) := by unfold Hid begunL; rw [hall, Bool.and_true, HL.out]
      clear hall
      go_wp2_with fail
      go_ret
      exact ⟨ret_bool (by rw [HF.out]; simp; omega), Below.refl _ _⟩
set_option maxHeartbeats 2000000 in
set_option maxRecDepth 20000 in
theorem rnext_calls (b off n cap : Nat) (xs : List Int) (w : World) (hx : RdB w (some ⟨b, off, none⟩) n xs) (hb : Bytes xs) (hn : n ≤ 1000000) (hcap : n ≤ cap) (hcm : cap ≤ maxLen) :
    Calls Try.prog 51 #[.slice (some ⟨b, off, none⟩) n cap] w (NextOut xs w) := by
  have HBG := Lib.hid (ropen_calls _ n cap xs w hx (by omega))
  have HX := Lib.hid hx
  have HBY := Lib.hid hb
  have HCM := Lib.hid hcm
  clear hx hb hcm
  go_enter Try.func51, Try.ntmps51
  go_wp2_with fail
  refine HBG.out.mono ?_
  rintro e w1 ⟨rfl, hb1⟩
  have HB1 := Lib.hid hb1
  by_cases hbe : begunL xs = true
  · rw [hbe]
    have HNX : Hid (nextL xs = .torn) := by unfold Hid nextL; rw [if_pos hbe]
    clear hb1 HBG hbe
    go_wp2_with fail
    go_ret3
    refine ⟨HB1.out, ?_⟩
    rw [HNX.out]
    rfl
  rw [Bool.not_eq_true] at hbe
  rw [hbe]
  have HTK := Lib.hid (qtake_calls (some ⟨b, off, none⟩) n cap xs w1 (HX.out.below hb1) HBY.out hn (fun e => by cases e) hcap HCM.out)
  have HBE := Lib.hid hbe
  clear hb1 HBG hbe
  go_wp2_with fail
  refine HTK.out.mono ?_
  rintro e w2 ⟨hb2, ⟨ht, rfl⟩ | ⟨v, ys, g, c2, ht, hv, rfl, hown⟩⟩
  · have HNX : Hid (nextL xs = .bad) := by unfold Hid nextL; rw [HBE.out, ht]; rfl
    have HB2 := Lib.hid (HB1.out.trans (hb2.mono HB1.out.size))
    clear hb2 ht HTK
    go_wp2_with fail
    go_ret3
    refine ⟨HB2.out, ?_⟩
    rw [HNX.out]
    rfl
  have HB2 := Lib.hid (HB1.out.trans (hb2.mono HB1.out.size))
  by_cases hbig : 65536 < v
  · have HNX : Hid (nextL xs = .bad) := by unfold Hid nextL; rw [HBE.out, ht]; simp only [Bool.false_eq_true, if_false]; rw [if_pos hbig]
    have hgt : (v : Int) > 65536 := by omega
    clear hb2 ht HTK hown
    go_wp2_with fail
    go_ret3
    refine ⟨HB2.out, ?_⟩
    rw [HNX.out]
    rfl
  have hgt : ¬ (v : Int) > 65536 := by omega
  have hyl : ys.length ≤ 1000000 := by have := (take_less xs 0 0 ht).1; have := HX.out.len; omega
  obtain ⟨yl, hyl2⟩ : ∃ yl, yl = ys.length := ⟨_, rfl⟩
  rw [← hyl2] at hyl hown ⊢
  by_cases hsh : yl < v + 4
  · have HNX : Hid (nextL xs = .torn) := by unfold Hid nextL; rw [HBE.out, ht]; simp only [Bool.false_eq_true, if_false]; rw [if_neg hbig, if_pos (by omega)]
    have hlt : (yl : Int) < (v : Int) + 4 := by omega
    clear hb2 ht HTK hown hyl2
    go_wp2_with fail
    go_ret3
    refine ⟨HB2.out, ?_⟩
    rw [HNX.out]
    rfl
  have hlt : ¬ (yl : Int) < (v : Int) + 4 := by omega
  obtain ⟨hc1, hc2⟩ := own_cap hown
  have hne : ¬ c2 = v := by omega
  have HY := Lib.hid (hown.rd encB_len)
  have hyb : Bytes ys := by
    obtain ⟨_, p, hp⟩ := take_less xs 0 0 ht
    intro x hx
    exact HBY.out x (by rw [← hp]; exact List.mem_append_right _ hx)
  have HYB := Lib.hid hyb
  have hvc : v ≤ c2 := by omega
  have hw4 : IntKind.i64.wrap ((v : Int) + 4) = ((v + 4 : Nat) : Int) := by rw [wrap_i64_small _ (by omega) (by omega)]; omega
  have hvc4 : v + 4 ≤ c2 := by omega
  have hi1 : 0 ≤ (v : Int) + 4 := by omega
  have hi2 : (v : Int) + 4 ≤ (c2 : Int) := by omega
  have hi3 : ((v : Int) + 4).toNat = v + 4 := by omega
  have hi4 : v ≤ v + 4 := by omega
  have hi5 : v + 4 - v = 4 := by omega
  have hbd : Below w2.heap.size w2 w2.drew := below_drew1 w2
  have HSU : Hid (∀ W, Below w2.heap.size w2 W → Calls Try.prog 42 #[.slice (some ⟨g, 0, none⟩) v c2] W fun e w' => e = .returned (.int .i64 (chkL (ys.take v))) ∧ Below W.heap.size W w') := fun W hW => rsum_calls (some ⟨g, 0, none⟩) v c2 (ys.take v) W ((rd_take HY.out (by omega)).below hW) (fun x hx => hyb x (List.mem_of_mem_take hx)) (by omega)
  have HY4 : Hid (RdB w2 (some ⟨g, v, none⟩) 4 ((ys.drop v).take 4)) := by
    have := rd_take (rdb_drop HY.out v) (k := 4) (by omega)
    rwa [Nat.zero_add] at this
  have HBD := Lib.hid hbd
  have HOWN := Lib.hid hown
  have HYL := Lib.hid hyl2
  have HT := Lib.hid ht
  have hgl : g < w2.heap.size ∧ w1.heap.size ≤ g := by
    rcases hown.shape with ⟨h, _⟩ | ⟨y, h, h2, h3⟩
    · cases h
    · injection h with h; injection h with h; subst h; exact ⟨h3, h2⟩
  have HGL := Lib.hid hgl
  obtain ⟨ck, hck⟩ : ∃ ck, ck = chkL (ys.take v) := ⟨_, rfl⟩
  have HCKL : Hid (ck < 4294967296) := by unfold Hid; rw [hck]; exact chkL_lt _
  have HCK := Lib.hid hck
  rw [← hck] at HSU
  clear hown ht hyl2 hyb hb2 hgl HTK hck
  by_cases heq : endL ck = (ys.drop v).take 4
  · have HEQ := Lib.hid heq
    clear heq
    go_wp2_with fail
    go_region_law (go_simp; go_wp2_with (first
      | (go_at_call 42; refine (HSU.out _ HBD.out).mono ?_; rintro e w3 ⟨rfl, hb3⟩; have HB3 := Lib.hid (HBD.out.trans (hb3.mono HBD.out.size)); clear hb3)
      | (go_at_call 41; refine (four_calls ck w3 HCKL.out).mono ?_; rintro e w4 ⟨g4, c4, rfl, ho4, hb4⟩; have HO4 := Lib.hid (ho4.rd encB_len); have HB4 := Lib.hid (HB3.out.trans (hb4.mono HB3.out.size)); clear ho4 hb4)
      | (go_at_call 17; refine (sameb_calls (some ⟨g4, 0, none⟩) (some ⟨g, v, none⟩) 4 4 c4 _ (endL ck) ((ys.drop v).take 4) w4 HO4.out (HY4.out.below HB4.out) (by omega) (by omega)).mono ?_; rintro e w5 ⟨rfl, q5, rfl⟩; rw [decide_eq_true HEQ.out]; have HB5 := Lib.hid (HB4.out.trans ((drewN_below w4 q5).mono HB4.out.size)))))
    all_goals
      have HNX : Hid (nextL xs = .whole (ys.take v) (ys.drop (v + 4))) := by unfold Hid nextL; rw [HBE.out, HT.out]; simp only [Bool.false_eq_true, if_false]; rw [if_neg hbig, if_neg (by have := HYL.out; omega), ← HCK.out, if_pos HEQ.out]
      obtain ⟨W5, hW5⟩ : ∃ W5, W5 = w4.drewN q5 := ⟨_, rfl⟩
      have HB5' := HB5.out
      rw [← hW5] at HB5' ⊢
      clear HB5 hW5
      have hoo : ∃ oo, (if c2 = v + 4 then some (⟨g, 0, none⟩ : Addr) else some ⟨g, v + 4, none⟩) = some ⟨g, oo, none⟩ ∧ RdB w2 (some ⟨g, oo, none⟩) (yl - (v + 4)) (ys.drop (v + 4)) := by
        by_cases hck : c2 = v + 4
        · refine ⟨0, if_pos hck, ?_⟩
          rw [show yl - (v + 4) = 0 by omega, List.drop_eq_nil_of_le (by rw [← HYL.out]; omega)]
          exact Rd.nil _ _ _ _
        · refine ⟨v + 4, if_neg hck, ?_⟩
          have := rdb_drop HY.out (v + 4)
          rwa [Nat.zero_add] at this
      obtain ⟨oo, hoo1, hoo2⟩ := hoo
      have HC1 : Hid (∀ W, Below w2.heap.size w2 W → Calls Try.prog 49 #[.slice (some ⟨g, 0, none⟩) v c2] W fun e w' => ∃ q cap, e = .returned (.slice (some ⟨q, 0, none⟩) v cap) ∧ OwnB w' W.heap.size (some ⟨q, 0, none⟩) v cap (ys.take v) ∧ Below W.heap.size W w') := fun W hW => copyb_calls _ v c2 (ys.take v) W ((rd_take HY.out (by omega)).below hW) (fun h => by cases h) (by omega)
      have HC2 : Hid (∀ W cx, Below w2.heap.size w2 W → Calls Try.prog 49 #[.slice (some ⟨g, oo, none⟩) (yl - (v + 4)) cx] W fun e w' => ∃ q cap, e = .returned (.slice (some ⟨q, 0, none⟩) (yl - (v + 4)) cap) ∧ OwnB w' W.heap.size (some ⟨q, 0, none⟩) (yl - (v + 4)) cap (ys.drop (v + 4)) ∧ Below W.heap.size W w') := fun W cx hW => copyb_calls _ (yl - (v + 4)) cx (ys.drop (v + 4)) W (hoo2.below hW) (fun h => by cases h) (by omega)
      have HBW := Lib.hid HB5'
      have HBD5 := Lib.hid (HB5'.trans ((below_drew1 W5).mono HB5'.size))
      have hi6 : v + 4 ≤ yl := by omega
      have hi9 : (v : Int) + 4 ≤ (yl : Int) := by omega
      clear HY4 HB5' HB4 HB3 HO4 hoo2 HSU HBD HEQ HCK HCKL
      go_simp
      go_wp2_with fail
    go_region_law (go_simp; go_wp2_with (first
      | (go_at_call 49; have hq6 := HB6.out; refine (HC2.out _ _ hq6).mono ?_; rintro e w7 ⟨g7, c7, rfl, ho7, hb7⟩; have HO7 := Lib.hid ho7; have HB7 := Lib.hid (hq6.trans (hb7.mono hq6.size)); have HO6 := Lib.hid (HO6.out.below hb7); clear ho7 hb7 hq6)
      | (go_at_call 49; refine (HC1.out _ HBD5.out).mono ?_; rintro e w6 ⟨g6, c6, rfl, ho6, hb6⟩; have HO6 := Lib.hid ho6; have HB6 := Lib.hid (HBD5.out.trans (hb6.mono HBD5.out.size)); clear ho6 hb6)))
    all_goals
      have hlen : (ys.drop (v + 4)).length = yl - (v + 4) := by rw [List.length_drop, ← HYL.out]
      have HLEN := Lib.hid hlen
      clear hlen
      go_simp
      go_wp2_with fail
      go_ret3
      have hz1 := HB1.out.size
      have hz2 := HB2.out.size
      have hz5 := HBD5.out.size
      have hz6 := HB6.out.size
      refine ⟨HB2.out.trans (HB7.out.mono HB2.out.size), ?_⟩
      rw [HNX.out]
      show ∃ B n cap g gc, _
      rw [HLEN.out]
      obtain ⟨o1, o2⟩ := own_cap HO6.out
      have hlt6 : g6 < w7.heap.size ∧ W5.drew.heap.size ≤ g6 := by
        rcases HO6.out.shape with ⟨h, _⟩ | ⟨y, h, h2, h3⟩
        · cases h
        · injection h with h; injection h with h; subst h; exact ⟨h3, h2⟩
      exact ⟨some ⟨g6, 0, none⟩, v, c6, g7, c7, rfl, HO6.out.rd encB_len, (fun h => by cases h), (fun a ha => by injection ha with ha; subst ha; exact ⟨Nat.le_trans (Nat.le_trans hz2 hz5) hlt6.2, hlt6.1⟩), HO7.out.lower (Nat.le_trans hz2 hz6), o1, o2⟩
  · have HEQ := Lib.hid heq
    have HNX : Hid (nextL xs = .bad) := by unfold Hid nextL; rw [HBE.out, HT.out]; simp only [Bool.false_eq_true, if_false]; rw [if_neg hbig, if_neg (by have := HYL.out; omega), ← HCK.out, if_neg heq]
    clear heq
    go_wp2_with fail
    go_region_law (go_simp; go_wp2_with (first
      | (go_at_call 42; refine (HSU.out _ HBD.out).mono ?_; rintro e w3 ⟨rfl, hb3⟩; have HB3 := Lib.hid (HBD.out.trans (hb3.mono HBD.out.size)); clear hb3)
      | (go_at_call 41; refine (four_calls ck w3 HCKL.out).mono ?_; rintro e w4 ⟨g4, c4, rfl, ho4, hb4⟩; have HO4 := Lib.hid (ho4.rd encB_len); have HB4 := Lib.hid (HB3.out.trans (hb4.mono HB3.out.size)); clear ho4 hb4)
      | (go_at_call 17; refine (sameb_calls (some ⟨g4, 0, none⟩) (some ⟨g, v, none⟩) 4 4 c4 _ (endL ck) ((ys.drop v).take 4) w4 HO4.out (HY4.out.below HB4.out) (by omega) (by omega)).mono ?_; rintro e w5 ⟨rfl, q5, rfl⟩; rw [decide_eq_false HEQ.out]; have HB5 := Lib.hid (HB4.out.trans ((drewN_below w4 q5).mono HB4.out.size)))))
    all_goals
      have HB6 := Lib.hid (HB2.out.trans (HB5.out.mono HB2.out.size))
      go_simp
      go_wp2_with fail
      go_ret3
      refine ⟨HB6.out, ?_⟩
      rw [HNX.out]
      rfl
end Go.Proofs.Ytideokbaenkijaa
namespace Go.Proofs.Ytideokbaenkijaa
open Go.RowKit

set_option maxHeartbeats 4000000 in
set_option maxRecDepth 20000 in
theorem rall_calls (A : Option Addr) (n cap : Nat) (xs : List Int) (w : World) (hx : RdB w A n xs) (hb : Bytes xs) (hn : n ≤ 1000000) (hcap : n ≤ cap) (hcm : cap ≤ maxLen) :
    Calls Try.prog 35 #[.slice A n cap] w (AllOut xs n w) := by
  have HX := Lib.hid hx
  have HBY := Lib.hid hb
  have HCM := Lib.hid hcm
  have hlb : Below w.heap.size w (w.alloc (.cells #[] 25)) := (Below.refl _ _).alloc (Nat.le_refl _) _
  have HLB := Lib.hid hlb
  have HLI := Lib.hid (Own.lit 25 1 BRow.l w w.heap.size (Nat.le_refl _))
  clear hx hb hcm hlb
  go_enter Try.func35, Try.ntmps35
  go_wp2_with fail
  go_loopw [5, 6] (fun ov rv wr => ∃ (k oc rl rc : Nat) (O R : Option Addr) (rows : List BRow) (zs : List Int), ov = .slice O k oc ∧ rv = .slice R rl rc ∧ k + rl ≤ n ∧ rl ≤ rc ∧ Hid (rc ≤ maxLen) ∧ Hid (RdB wr R rl zs) ∧ Hid (Bytes zs) ∧ Hid (OwnR wr w.heap.size O k oc rows) ∧ Hid (∀ r ∈ rows, BRowOk wr r ∧ ∀ a, r.A = some a → a.block < wr.heap.size) ∧ Hid (∀ x, O = some ⟨x, 0, none⟩ → (∀ a, R = some a → 0 < rl → a.block ≠ x) ∧ ∀ r ∈ rows, ∀ a, r.A = some a → a.block ≠ x) ∧ Hid (allL xs = (rows.map BRow.xs ++ (allL zs).1, (allL zs).2)) ∧ Hid (Below w.heap.size w wr) ∧ Hid (∀ r ∈ rows, r.n ≤ r.cap ∧ r.cap ≤ maxLen)) (fun _ rv _ => match rv with | .slice _ l _ => l | _ => 0)
  case atStart => exact ⟨0, 0, n, cap, _, A, [], xs, rfl, rfl, by omega, hcap, HCM.out, HX.out.below HLB.out, HBY.out, HLI.out, (fun r hr => nomatch hr), (fun x hx => by injection hx with hx; injection hx with hx; subst hx; exact ⟨fun a ha hp he => by obtain ⟨b, o, e, hb⟩ := rdb_some HX.out hp; rw [e] at ha; injection ha with ha; subst ha; have he' : b = w.heap.size := he; omega, fun r hr => nomatch hr⟩), rfl, HLB.out, (fun r hr => nomatch hr)⟩
  case round =>
    obtain ⟨k, oc, rl, rc, O, R, rows, zs, rfl, rfl, hkr, hrc, HRC, HRD, HBZ, HOW, HRO, HAP, HAL, HB, HCP⟩ := hrel
    by_cases hpos : 0 < rl
    · obtain ⟨b, off, rfl, hbl⟩ := rdb_some HRD.out hpos
      have hpos' : (rl : Int) > 0 := by omega
      have HNX := Lib.hid (rnext_calls b off rl rc zs wr HRD.out HBZ.out (by omega) hrc HRC.out)
      have hzne : zs ≠ [] := fun h => by have := HRD.out.len; rw [h] at this; simp at this; omega
      have HZN := Lib.hid hzne
      have HZL := Lib.hid HRD.out.len
      have HBL := Lib.hid hbl
      clear hzne hbl
      go_wp2_with fail
      refine HNX.out.mono ?_
      rintro e w2 ⟨hb2, hres⟩
      cases hnx : nextL zs with
      | torn =>
        rw [hnx] at hres
        subst hres
        have HFIN : Hid (allL xs = (rows.map BRow.xs, zs, 1)) := by unfold Hid; rw [HAL.out, all_torn HZN.out hnx, List.append_nil]
        have HB2 := Lib.hid (HB.out.trans (hb2.mono HB.out.size))
        have HR2 := Lib.hid ((HOW.out.below hb2).rd BRow.l_len)
        have HRO2 : Hid (∀ r ∈ rows, BRowOk w2 r) := fun r hr => (HRO.out r hr).1.below hb2
        clear hnx hb2 HNX HAL
        go_wp2_with fail
        go_ret3
        refine ⟨HB2.out, rows, O, k, oc, ?_, HR2.out, by rw [HFIN.out], HRO2.out, by omega, HCP.out⟩
        rw [HFIN.out]
        show _ = Ending.returned (.tuple #[.slice O k oc, .int .i64 ((n : Int) - (zs.length : Nat)), .int .i64 ((1 : Nat) : Int)])
        rw [← HZL.out]
        rfl
      | bad =>
        rw [hnx] at hres
        subst hres
        have HFIN : Hid (allL xs = (rows.map BRow.xs, zs, 2)) := by unfold Hid; rw [HAL.out, all_bad HZN.out hnx, List.append_nil]
        have HB2 := Lib.hid (HB.out.trans (hb2.mono HB.out.size))
        have HR2 := Lib.hid ((HOW.out.below hb2).rd BRow.l_len)
        have HRO2 : Hid (∀ r ∈ rows, BRowOk w2 r) := fun r hr => (HRO.out r hr).1.below hb2
        clear hnx hb2 HNX HAL
        go_wp2_with fail
        go_ret3
        refine ⟨HB2.out, rows, O, k, oc, ?_, HR2.out, by rw [HFIN.out], HRO2.out, by omega, HCP.out⟩
        rw [HFIN.out]
        show _ = Ending.returned (.tuple #[.slice O k oc, .int .i64 ((n : Int) - (zs.length : Nat)), .int .i64 ((2 : Nat) : Int)])
        rw [← HZL.out]
        rfl
      | whole x r =>
        rw [hnx] at hres
        obtain ⟨B, m, mc, g, gc, rfl, hB, hBn, hBb, hG, hmc1, hmc2⟩ := hres
        have HMC : Hid (m ≤ mc ∧ mc ≤ maxLen) := ⟨hmc1, hmc2⟩
        clear hmc1 hmc2
        obtain ⟨hless, hx64, pp, hpp⟩ := next_less hnx
        have HFIN : Hid (allL xs = ((rows.map BRow.xs ++ [x]) ++ (allL r).1, (allL r).2)) := all_split HAL.out HZN.out hnx
        have HB2 := Lib.hid (HB.out.trans (hb2.mono HB.out.size))
        have HOW2 := Lib.hid (HOW.out.below hb2)
        have HRO2 : Hid (∀ r ∈ rows, BRowOk w2 r ∧ ∀ a, r.A = some a → a.block < w2.heap.size) := fun r hr => ⟨(HRO.out r hr).1.below hb2, fun a ha => Nat.lt_of_lt_of_le ((HRO.out r hr).2 a ha) hb2.size⟩
        have hOlt : Hid (∀ x, O = some ⟨x, 0, none⟩ → x < wr.heap.size) := fun x hx => by
          rcases HOW.out.shape with ⟨h, _⟩ | ⟨y, h, _, h3⟩
          · rw [h] at hx; cases hx
          · rw [h] at hx; injection hx with hx; injection hx with hx; omega
        have hrlen : k + 1 + r.length ≤ n := by have := HZL.out; omega
        obtain ⟨hg1, hg2⟩ := own_cap hG
        have hbr : Bytes r := fun q hq => HBZ.out q (by rw [← hpp]; exact List.mem_append_right _ hq)
        have HBR := Lib.hid hbr
        have HGC := Lib.hid hg2
        have HGR := Lib.hid (hG.rd encB_len)
        have hgs := hG.shape
        have HG : Hid (wr.heap.size ≤ g ∧ g < w2.heap.size) := by
          rcases hgs with ⟨h, _⟩ | ⟨y, h, h2, h3⟩
          · cases h
          · injection h with h; injection h with h; subst h; exact ⟨h2, h3⟩
        have HBX := Lib.hid hB
        have HBN := Lib.hid hBn
        have HBB := Lib.hid hBb
        have hbase := Lib.hid HB2.out.size
        have hk1 : k ≤ 1000000 := by omega
        obtain ⟨rln, hrln⟩ : ∃ rln, rln = r.length := ⟨_, rfl⟩
        rw [← hrln] at hrlen hg1 ⊢
        rw [← hrln] at HGR
        have hls : rln < rl := by have := HZL.out; omega
        clear hB hBn hBb hG hless hx64 hpp hbr hg2 hgs hb2 HNX HAL HRD HOW HRO hnx hrln
        go_wp2_with (at_builtin; refine app_row rfl (.tmp 30) (.tmp 32) rfl ⟨B, m, mc, x⟩ rfl HOW2.out rfl rfl (by omega) hbase.out ?_; intro g3 ac' w4 h1 h2 h3 h4)
        have hneA : ∀ y, O = some ⟨y, 0, none⟩ → ∀ a : Addr, wr.heap.size ≤ a.block → a.block ≠ y := fun y hy a ha => by have := hOlt.out y hy; omega
        have HO4 := Lib.hid h1
        have HR4 : Hid (RdB w4 (some ⟨g, 0, none⟩) rln r) := HGR.out.only h2 (fun a ha he => by injection ha with ha; subst ha; exact hneA _ he ⟨g, 0, none⟩ HG.out.1 rfl)
        have HN4 : Hid (BRowOk w4 ⟨B, m, mc, x⟩) := ⟨HBX.out.only h2 (fun a ha he => hneA _ he a (HBB.out a ha).1 rfl), HBN.out⟩
        have HRO4 : Hid (∀ q ∈ rows, BRowOk w4 q ∧ ∀ a, q.A = some a → a.block < w2.heap.size) := fun q hq => ⟨(HRO2.out q hq).1.only h2 (fun a ha he => (HAP.out _ he).2 q hq a ha rfl), (HRO2.out q hq).2⟩
        have HB4 := Lib.hid (HB2.out.trans (h2.below hbase.out (own_above HOW2.out)))
        have hz : w2.heap.size ≤ w4.heap.size := h2.size
        refine ⟨⟨k + 1, ac', rln, gc, some ⟨g3, 0, none⟩, some ⟨g, 0, none⟩, rows ++ [(⟨B, m, mc, x⟩ : BRow)], r, rfl, rfl, by omega, by omega, HGC.out, HR4.out, HBR.out, HO4.out, ?_, ?_, by unfold Hid; rw [HFIN.out, List.map_append]; rfl, HB4.out, ?_⟩, by simp only; omega⟩
        · intro q hq
          rcases List.mem_append.1 hq with hq | hq
          · exact ⟨(HRO4.out q hq).1, fun a ha => Nat.lt_of_lt_of_le ((HRO4.out q hq).2 a ha) hz⟩
          · rw [List.mem_singleton.1 hq]
            exact ⟨HN4.out, fun a ha => Nat.lt_of_lt_of_le (HBB.out a ha).2 hz⟩
        rotate_left
        · intro q hq
          rcases List.mem_append.1 hq with hq | hq
          · exact HCP.out q hq
          · rw [List.mem_singleton.1 hq]
            exact HMC.out
        · intro y hy
          injection hy with hy; injection hy with hy
          subst hy
          refine ⟨fun a ha _ => ?_, fun q hq a ha => ?_⟩
          · injection ha with ha; subst ha
            rcases h3 with h3 | h3
            · exact hneA _ h3 ⟨g, 0, none⟩ HG.out.1
            · have := HG.out.2; show g ≠ _; omega
          · rcases List.mem_append.1 hq with hq | hq
            · rcases h3 with h3 | h3
              · exact (HAP.out _ h3).2 q hq a ha
              · have := (HRO4.out q hq).2 a ha; omega
            · rw [List.mem_singleton.1 hq] at ha
              rcases h3 with h3 | h3
              · exact hneA _ h3 a (HBB.out a ha).1
              · have := (HBB.out a ha).2; omega
    · have hz : zs = [] := List.eq_nil_of_length_eq_zero (by have := HRD.out.len; omega)
      have hrl0 : rl = 0 := by omega
      subst hz
      subst hrl0
      have HFIN : Hid (allL xs = (rows.map BRow.xs, [], 0)) := by unfold Hid; rw [HAL.out, all_nil, List.append_nil]
      have HR2 := Lib.hid (HOW.out.rd BRow.l_len)
      have HRO2 : Hid (∀ r ∈ rows, BRowOk wr r) := fun r hr => (HRO.out r hr).1
      clear HAL hpos
      go_wp2_with fail
      go_ret3
      refine ⟨HB.out, rows, O, k, oc, ?_, HR2.out, by rw [HFIN.out], HRO2.out, by omega, HCP.out⟩
      rw [HFIN.out]
      show _ = Ending.returned (.tuple #[.slice O k oc, .int .i64 ((n : Int) - ((0 : Nat) : Int)), .int .i64 ((0 : Nat) : Int)])
      rw [show (n : Int) - ((0 : Nat) : Int) = n by omega]
      rfl
end Go.Proofs.Ytideokbaenkijaa
