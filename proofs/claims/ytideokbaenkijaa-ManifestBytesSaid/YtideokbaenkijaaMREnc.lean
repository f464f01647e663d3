/-
  joistref11.Encode, First.
-/
import Derived.Test.YtideokbaenkijaaMRef
import Derived.Test.YtideokbaenkijaaMRRight
namespace Go.Proofs.Ytideokbaenkijaa
open Go.RowKit

set_option maxHeartbeats 4000000 in
set_option maxRecDepth 20000 in
theorem rencm_calls (s : StateD) (A : Option Addr) (k c : Nat) (w : World) (h : RdN w A k s.tabs) (hA : A = none → c = 0) (hk : k ≤ 1000000000) :
    Calls Try.prog 10 #[s.v A k c] w (EncOut s w) := by
  have HLN := Lib.hid h.len
  obtain ⟨hbx, cv⟩ := one_box w (s.cells A k c) 24
  have b0 := cv 0 _ rfl
  have b1 := cv 1 _ rfl
  have b2 := cv 2 _ rfl
  have b3 := cv 3 _ rfl
  have h := h.below hbx
  have HBX := Lib.hid hbx
  have HR := Lib.hid (rright_calls s A k c _ h hk)
  have HH := Lib.hid h
  have HA := Lib.hid hA
  clear cv hbx h hA
  go_enter Try.func10, Try.ntmps10
  go_wp2_with fail
  refine HR.out.mono ?_
  rintro e w1 ⟨rfl, hb1⟩
  have HB1 := Lib.hid (HBX.out.trans (hb1.mono HBX.out.size))
  have d0 := below_cell hb1 (Nat.le_refl _) b0
  have d1 := below_cell hb1 (Nat.le_refl _) b1
  have d2 := below_cell hb1 (Nat.le_refl _) b2
  have d3 := below_cell hb1 (Nat.le_refl _) b3
  have H1 := Lib.hid (HH.out.below hb1)
  clear b0 b1 b2 b3 hb1 HH HR
  cases hr : rightS s with
  | false =>
    have HRF := Lib.hid hr
    clear hr
    go_wp2_with fail
    go_ret2
    exact ⟨HB1.out, .inl ⟨HRF.out, rfl⟩⟩
  | true =>
    have HRT := Lib.hid (right_iff.1 hr)
    have HRB := Lib.hid hr
    have hk50 : k ≤ 50 := by have := HRT.out.few; have := HLN.out; omega
    clear hr
    have hlit : Below w1.heap.size w1 (w1.alloc (.cells #[.int .i64 s.gen, .int .i64 s.app, .int .i64 s.next, .int .i64 (k : Int)] 3)) := (Below.refl _ _).alloc (Nat.le_refl _) _
    have j3 := below_cell hlit (Nat.le_refl _) d3
    have HLO : Hid (OwnN (w1.alloc (.cells #[.int .i64 s.gen, .int .i64 s.app, .int .i64 s.next, .int .i64 (k : Int)] 3)) w1.heap.size (some ⟨w1.heap.size, 0, none⟩) 4 4 [s.gen, s.app, s.next, (k : Int)]) := own_ints (xs := [s.gen, s.app, s.next, (k : Int)]) rfl (Nat.le_refl _) (by simp)
    have H2 := Lib.hid (H1.out.below hlit)
    have HLIT := Lib.hid hlit
    clear hlit
    go_wp2_with (at_builtin; refine app_ints rfl (.tmp 20) (.tmp 22) rfl rfl HLO.out rfl HA.out H2.out (by omega) HLIT.out.size ?_; intro A' cap' w4 h1 h2 h3 h4)
    have hnums : [s.gen, s.app, s.next, (k : Int)] ++ s.tabs = numsS s := by unfold numsS; rw [← HLN.out]; rfl
    rw [hnums] at h1
    have HO4 := Lib.hid h1
    have HRD := Lib.hid (h1.rd encN_len)
    have HB4 := Lib.hid (HB1.out.trans ((HLIT.out.mono (Nat.le_refl _)).trans (h2.below HLIT.out.size (fun i hi => by injection hi with hi; injection hi with hi; omega)) |>.mono HB1.out.size))
    clear h1 h2 h3 h4 hnums HLO H2 HLIT H1 j3 d0 d1 d2 d3
    have hnb : ∀ x ∈ numsS s, 0 ≤ x ∧ x < 9223372036854775808 := nums_bound HRB.out
    have HNB := Lib.hid hnb
    have hnl : (numsS s).length = 4 + k := by unfold numsS; simp only [List.length_cons]; have := HLN.out; omega
    have HNL := Lib.hid hnl
    clear hnb hnl
    go_wp2_with fail
    go_loopw [5, 6] (fun ov iv wr => ∃ (i m cap : Nat) (O : Option Addr), i ≤ 4 + k ∧ m ≤ 9 * i ∧ iv = .int .i64 i ∧ ov = .slice O m cap ∧ Hid (OwnB wr w4.heap.size O m cap (vlqs ((numsS s).take i))) ∧ Hid (Below w4.heap.size w4 wr)) (fun _ iv _ => 4 + k - (intOf iv).toNat)
    case atStart => exact ⟨0, 0, 0, _, Nat.zero_le _, Nat.zero_le _, rfl, rfl, Own.lit 5 1 encB w4 w4.heap.size (Nat.le_refl _), (Below.refl _ _).alloc (Nat.le_refl _) _⟩
    case round =>
      obtain ⟨i, m, cap, O, hi, hm, rfl, rfl, HOW, HB⟩ := hrel
      by_cases hlt : i < 4 + k
      · obtain ⟨x, b, o, hx, rfl, _, hc0⟩ := (HRD.out.below HB.out).get i hlt
        have c0 := hc0 0 _ rfl
        simp only [Nat.mul_one, Nat.add_zero] at c0
        obtain ⟨v, rfl⟩ : ∃ v : Nat, x = v := ⟨x.toNat, by have := HNB.out x (List.mem_of_getElem? hx); omega⟩
        have hv : v < 9223372036854775808 := by have := HNB.out _ (List.mem_of_getElem? hx); omega
        have HV := Lib.hid (vlq_small hv)
        have HNM := Lib.hid (rnum_calls v wr hv)
        have htk : vlqs ((numsS s).take (i + 1)) = vlqs ((numsS s).take i) ++ vlq v := by
          rw [take_at hx]; unfold vlqs; rw [List.flatMap_append]; simp
        have HTK := Lib.hid htk
        clear hc0 hx htk hv
        go_wp2_with fail
        refine HNM.out.mono ?_
        rintro e w5 ⟨B5, m5, c5, rfl, ho5, hb5⟩
        have HO5 := Lib.hid (ho5.rd encB_len)
        have HN5 := Lib.hid (own_nil_cap ho5)
        have hm5 : m5 ≤ 9 := by rw [ho5.1]; exact HV.out
        have HOW5 := Lib.hid (HOW.out.below hb5)
        have HB5 := Lib.hid (HB.out.trans (hb5.mono HB.out.size))
        clear ho5 hb5 HNM HOW
        go_wp2_with (at_builtin; refine app_bytes rfl (.tmp 31) (.tmp 36) rfl rfl HOW5.out rfl HN5.out HO5.out (by omega) HB5.out.size ?_; intro A6 cap6 w6 q1 q2 q3 q4)
        rw [← HTK.out] at q1
        have HB6 := Lib.hid (HB5.out.trans (q2.below HB5.out.size (own_above HOW5.out)))
        refine ⟨⟨i + 1, m + m5, cap6, A6, by omega, by omega, by go_num, rfl, q1, HB6.out⟩, ?_⟩
        simp [intOf]; omega
      · have hall : (numsS s).take i = numsS s := List.take_of_length_le (by rw [HNL.out]; omega)
        rw [hall] at HOW
        clear hall
        have HBF := Lib.hid (HB4.out.trans (HB.out.mono HB4.out.size))
        go_wp2_with fail
        go_ret2
        exact ⟨HBF.out, .inr ⟨HRB.out, O, m, cap, rfl, HOW.out.lower HB4.out.size⟩⟩
set_option maxHeartbeats 1000000 in
theorem rfirst_calls (w : World) : Calls Try.prog 24 #[] w fun e w' => e = .returned (firstS.v none 0 0) ∧ Below w.heap.size w w' := by
  go_enter Try.func24, Try.ntmps24
  go_wp2_with fail
  obtain ⟨y0, y1, y2, y3, _⟩ := box4 (heap_alloc_new w (.cells #[.int .i64 0, .int .i64 0, .int .i64 1, .slice none 0 0] 24))
  refine bodyPost_ret (v := firstS.v none 0 0) (by simp [results, Try.results24, go_sem, y0, y1, y2, y3, firstS]; try rfl) rfl ⟨rfl, ?_⟩
  exact (Below.refl _ _).alloc (Nat.le_refl _) _
end Go.Proofs.Ytideokbaenkijaa
