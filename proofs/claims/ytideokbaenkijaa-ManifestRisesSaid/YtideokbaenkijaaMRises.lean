/-
  ManifestRises, walked.
-/
import Derived.Test.YtideokbaenkijaaMAl
namespace Go.Proofs.Ytideokbaenkijaa
open Go.RowKit

set_option maxHeartbeats 1000000 in
set_option maxRecDepth 20000 in
theorem rises_calls (s : StateD) (A : Option Addr) (k c : Nat) (gen : Int) (w : World) (h : RdN w A k s.tabs) (hA : A = none → c = 0) (hg : -9223372036854775808 ≤ gen ∧ gen < 9223372036854775808) :
    Calls Try.prog 5 #[s.v A k c, .int .i64 gen] w fun e w' => e = .returned (.bool true) ∧ Below w.heap.size w w' := by
  obtain ⟨W0, hW0⟩ : ∃ W0, W0 = w.alloc (.cells #[.int .i64 s.gen, .int .i64 s.app, .int .i64 s.next, .slice A k c] 24) := ⟨_, rfl⟩
  have hbx : Below w.heap.size w W0 := by rw [hW0]; exact (Below.refl _ _).alloc (Nat.le_refl _) _
  have hs0 : W0.heap[w.heap.size]? = some (.cells #[.int .i64 s.gen, .int .i64 s.app, .int .i64 s.next, .slice A k c] 24) := by rw [hW0]; exact heap_alloc_new _ _
  have HAL := Lib.hid (alive_calls W0)
  have HBX := Lib.hid hbx
  have HS0 := Lib.hid hs0
  have HH := Lib.hid h
  have HAN := Lib.hid hA
  have HLN := Lib.hid h.len
  have HWZ : Hid (w.heap.size < W0.heap.size) := by unfold Hid; rw [hW0]; simp
  clear hbx hs0 h hA
  go_enter Try.func5, Try.ntmps5
  go_wp2_with fail
  rw [← hW0]
  clear hW0
  refine HAL.out.mono ?_
  rintro e w1 ⟨rfl, hb1⟩
  have HB1 := Lib.hid (HBX.out.trans (hb1.mono HBX.out.size))
  have hs1 := (hb1.block _ HWZ.out).trans HS0.out
  have HS1 := Lib.hid hs1
  obtain ⟨p0, p1, p2, p3, pf⟩ := box4 hs1
  have HZ1 := Lib.hid (Nat.lt_of_lt_of_le HWZ.out hb1.size)
  clear hb1 HAL hs1 HS0 HWZ HBX
  by_cases hk : k > 60
  · have hk' : (k : Int) > 60 := by omega
    go_wp2_with fail
    go_ret
    exact ⟨rfl, HB1.out⟩
  have hk' : ¬ (k : Int) > 60 := by omega
  have hk6 : k ≤ 60 := by omega
  have HNW := Lib.hid (invS_new 5000 w1 (by decide))
  clear hk
  go_wp2_with fail
  refine HNW.out.mono ?_
  rintro e w2 ⟨bd, rfl, hi, hb2⟩
  have hs2 := (hb2.block _ HZ1.out).trans HS1.out
  have HS2 := Lib.hid hs2
  obtain ⟨q0, q1, q2, q3, qf⟩ := box4 hs2
  have HB2 := Lib.hid (HB1.out.trans (hb2.mono HB1.out.size))
  have HI := Lib.hid hi
  have HRR := Lib.hid (rright_calls s A k c w2 (HH.out.below HB2.out) (by omega))
  have HZ2 := Lib.hid hb2.size
  clear hi hb2 hs2 HNW p0 p1 p2 p3 pf
  go_wp2_with fail
  refine HRR.out.mono ?_
  rintro e w3 ⟨rfl, hb3⟩
  have HI3 := Lib.hid (HI.out.below hb3)
  have HB3 := Lib.hid (HB2.out.trans (hb3.mono HB2.out.size))
  have hs3 := (hb3.block _ (Nat.lt_of_lt_of_le HZ1.out HZ2.out)).trans HS2.out
  have HS3 := Lib.hid hs3
  obtain ⟨p0, p1, p2, p3, pf⟩ := box4 hs3
  have HZ3 := Lib.hid (Nat.le_trans HZ2.out hb3.size)
  clear hb3 hs3 HI HRR q0 q1 q2 q3 qf HZ2
  cases hr : rightS s with
  | false =>
    have HR := Lib.hid hr
    have HOF := Lib.hid (of_calls s A k c w3 (HH.out.below HB3.out) HAN.out (by omega))
    clear hr
    go_wp2_with fail
    refine HOF.out.mono ?_
    rintro e w4 ⟨g, mc, rfl, ho, hb4⟩
    have HNO : Hid (fitsS [] s = false) := by unfold Hid fitsS; rw [HR.out]; rfl
    have HSV := Lib.hid (invS_no (HI3.out.below hb4) s HNO.out (some ⟨g, 0, none⟩) k mc (ho.rd encN_len) (fun e => by cases e) (by omega) (fun h => by rw [HR.out] at h; cases h))
    have HB4 := Lib.hid (HB3.out.trans (hb4.mono HB3.out.size))
    have HZ4 := Lib.hid (Nat.le_trans HZ3.out hb4.size)
    clear ho hb4 HOF
    go_wp2_with fail
    refine HSV.out.mono ?_
    rintro e w5 ⟨rfl, hi, ho⟩
    have HSZ := Lib.hid (invS_size hi)
    have HB5 := Lib.hid (HB4.out.trans (ho.below HB4.out.size fun k hk => Nat.le_trans HB1.out.size hk))
    clear hi ho HSV
    go_wp2_with fail
    refine HSZ.out.mono ?_
    rintro e w6 ⟨rfl, hb6⟩
    rw [show ((fileS []).length : Int) = 0 from rfl]
    have HB6 := Lib.hid (HB5.out.trans (hb6.mono HB5.out.size))
    clear hb6 HSZ
    go_wp2_with fail
    go_ret
    exact ⟨rfl, HB6.out⟩
  | true =>
    have HR := Lib.hid hr
    clear hr
    have hba : Below w3.heap.size w3 (w3.alloc (.cells #[.int .i64 gen, .int .i64 s.app, .int .i64 s.next, .slice A k c] 24)) := (Below.refl _ _).alloc (Nat.le_refl _) _
    have hs4 := (hba.block w.heap.size (Nat.lt_of_lt_of_le HZ1.out HZ3.out)).trans HS3.out
    have hn4 := heap_alloc_new w3 (.cells #[.int .i64 gen, .int .i64 s.app, .int .i64 s.next, .slice A k c] 24)
    obtain ⟨r0, r1, r2, r3, rf⟩ := box4 hs4
    obtain ⟨n0, n1, n2, n3, nf⟩ := box4 hn4
    have HV := Lib.hid hba
    have HBV := Lib.hid (HB3.out.alloc HB3.out.size (.cells #[.int .i64 gen, .int .i64 s.app, .int .i64 s.next, .slice A k c] 24))
    have HS4 := Lib.hid hs4
    have HN4 := Lib.hid hn4
    have hvs : (w3.alloc (.cells #[.int .i64 gen, .int .i64 s.app, .int .i64 s.next, .slice A k c] 24)).heap.size = w3.heap.size + 1 := by simp
    have HVS := Lib.hid hvs
    have HI4 := Lib.hid (HI3.out.tight.below hba)
    have HOF := Lib.hid (of_calls s A k c (w3.alloc (.cells #[.int .i64 gen, .int .i64 s.app, .int .i64 s.next, .slice A k c] 24)) (HH.out.below HBV.out) HAN.out (by omega))
    clear hba hs4 hn4 hvs
    go_wp2_with fail
    refine HOF.out.mono ?_
    rintro e w5 ⟨g, mc, rfl, ho, hb5⟩
    have HFY : Hid (fitsS [] s = true) := by unfold Hid fitsS; rw [HR.out]; rfl
    have HSV := Lib.hid (invS_yes (HI4.out.below hb5) s HFY.out (some ⟨g, 0, none⟩) k mc (ho.rd encN_len) (fun e => by cases e) (by omega) (by have := frame_len HR.out; show 0 + _ ≤ _; omega))
    have HB5 := Lib.hid (HBV.out.trans (hb5.mono HBV.out.size))
    have HV5 := Lib.hid hb5
    clear ho hb5 HOF r0 r1 r2 r3 rf n0 n1 n2 n3 nf
    go_wp2_with fail
    refine HSV.out.mono ?_
    rintro e w6 ⟨rfl, hi, ho⟩
    have hs6 : w6.heap[w.heap.size]? = some (.cells #[.int .i64 s.gen, .int .i64 s.app, .int .i64 s.next, .slice A k c] 24) := by
      have h1 := HZ1.out
      have h3 := HZ3.out
      have h5 := HV5.out.size
      have hv := HVS.out
      rw [ho.block w.heap.size (by omega) (by omega), HV5.out.block w.heap.size (by omega)]
      exact HS4.out
    have hn6 : w6.heap[w3.heap.size]? = some (.cells #[.int .i64 gen, .int .i64 s.app, .int .i64 s.next, .slice A k c] 24) := by
      have h5 := HV5.out.size
      have hv := HVS.out
      rw [ho.block w3.heap.size (by omega) (by omega), HV5.out.block w3.heap.size (by omega)]
      exact HN4.out
    have HB6 := Lib.hid (HB5.out.trans (ho.below HB5.out.size fun k hk => Nat.le_trans HB1.out.size hk.1))
    have HZ6 : Hid (w3.heap.size < w5.heap.size ∧ w5.heap.size ≤ w6.heap.size) := ⟨by have h5 := HV5.out.size; have hv := HVS.out; omega, ho.size⟩
    have hi6 : InvS (Plus (fun k => w1.heap.size ≤ k ∧ k < w3.heap.size) w5.heap.size) w6 bd 5000 [s] := hi
    have HI6 := Lib.hid hi6
    have HS6 := Lib.hid hs6
    have HN6 := Lib.hid hn6
    obtain ⟨r0, r1, r2, r3, rf⟩ := box4 hs6
    obtain ⟨n0, n1, n2, n3, nf⟩ := box4 hn6
    obtain ⟨nx, hnx⟩ : ∃ nx : StateD, nx = ⟨gen, s.app, s.next, s.tabs⟩ := ⟨_, rfl⟩
    have HNX := Lib.hid hnx
    have htn : RdN w6 A k nx.tabs := by rw [hnx]; exact HH.out.below HB6.out
    have HOF := Lib.hid (of_calls nx A k c w6 htn HAN.out (by omega))
    have HVN : Hid (#[Value.agg #[.int .i64 gen, .int .i64 s.app, .int .i64 s.next, .slice A k c]] = #[nx.v A k c]) := by unfold Hid; rw [hnx]
    have HVM : Hid (∀ T c2, nx.v T k c2 = .agg #[.int .i64 gen, .int .i64 s.app, .int .i64 s.next, .slice T k c2]) := fun T c2 => by rw [HNX.out]
    clear hi ho hi6 hs6 hn6 HSV HI4 HI3 HS4 HN4 hnx htn HV HV5 HVS HS3
    go_wp2_with fail
    rw [HVN.out]
    refine HOF.out.mono ?_
    rintro e w7 ⟨g7, mc7, rfl, ho7, hb7⟩
    rw [HVM.out]
    have HB7 := Lib.hid (HB6.out.trans (hb7.mono HB6.out.size))
    have hs7 := (hb7.block w.heap.size (by have := HZ6.out; have := HZ1.out; have := HZ3.out; omega)).trans HS6.out
    have hn7 := (hb7.block w3.heap.size (by have := HZ6.out; omega)).trans HN6.out
    have HS7 := Lib.hid hs7
    have HN7 := Lib.hid hn7
    have HI7 := Lib.hid (HI6.out.below hb7)
    have HT7 := Lib.hid (ho7.rd encN_len)
    have HZ7 : Hid (w6.heap.size ≤ w7.heap.size) := hb7.size
    have hsg := right_iff.1 HR.out
    have hwg : wrap64 (s.gen + 1) = s.gen + 1 := by have h1 := hsg.g0; have h2 := hsg.g1; unfold wrap64; omega
    obtain ⟨g1, hg1⟩ : ∃ g1, g1 = s.gen + 1 := ⟨_, rfl⟩
    have hwg2 : wrap64 (s.gen + 1) = g1 := hwg.trans hg1.symm
    have HG1 := Lib.hid hg1
    clear ho7 hb7 HOF HI6 HS6 HN6 hs7 hn7 r0 r1 r2 r3 rf n0 n1 n2 n3 nf hsg hwg hg1
    by_cases hge : gen = g1
    · cases hrn : rightS nx with
      | false =>
        have HFT : Hid (fitsS [s] nx = false) := by unfold Hid fitsS; rw [hrn]; rfl
        have hq : (gen == g1) = true := by simpa using hge
        have HRN := Lib.hid hrn
        clear hrn
        have HSV := Lib.hid (invS_no HI7.out nx HFT.out (some ⟨g7, 0, none⟩) k mc7 HT7.out (fun e => by cases e) (by omega) (fun h => by have h1 := frame_len HR.out; have h2 := frame_len h; rw [file_one]; omega))
        rw [HVM.out] at HSV
        clear hge
        go_wp2_with fail
        refine HSV.out.mono ?_
        rintro e w8 ⟨rfl, hi, ho⟩
        have HB8 := Lib.hid (HB7.out.trans (ho.below HB7.out.size fun k hk => by have h1 := HB1.out.size; have h2 := HB5.out.size; rcases hk with hk | hk; exact Nat.le_trans h1 hk.1; exact Nat.le_trans h2 hk))
        have hs8 : w8.heap[w.heap.size]? = some (.cells #[.int .i64 s.gen, .int .i64 s.app, .int .i64 s.next, .slice A k c] 24) := by
          have h1 := HZ1.out
          have h3 := HZ3.out
          have h6 := HZ6.out
          have h7 := HZ7.out
          rw [ho.block w.heap.size (by omega) (by rintro (h | h); exact absurd h.1 (by omega); exact absurd h (by omega))]
          exact HS7.out
        have hn8 : w8.heap[w3.heap.size]? = some (.cells #[.int .i64 gen, .int .i64 s.app, .int .i64 s.next, .slice A k c] 24) := by
          have h6 := HZ6.out
          have h7 := HZ7.out
          rw [ho.block w3.heap.size (by omega) (by rintro (h | h); exact absurd h.2 (by omega); exact absurd h (by omega))]
          exact HN7.out
        have HZ8 : Hid (w3.heap.size < w8.heap.size ∧ w.heap.size < w8.heap.size) := ⟨by have := HZ6.out; have := HZ7.out; have := ho.size; omega, by have := HZ1.out; have := HZ3.out; have := HZ6.out; have := HZ7.out; have := ho.size; omega⟩
        have HS8 := Lib.hid hs8
        have HN8 := Lib.hid hn8
        have HLD := Lib.hid (invS_load hi)
        rw [show lastS firstS [s] = s from rfl] at HLD
        clear hi ho hs8 hn8 HSV HI7 HS7 HN7
        go_wp2_with fail
        refine HLD.out.mono ?_
        rintro e w9 ⟨⟨B, kb, cb, rfl, hrb, hbn, hkb⟩, hb9⟩
        have hba : Below w9.heap.size w9 (w9.alloc (.cells #[.int .i64 s.gen, .int .i64 s.app, .int .i64 s.next, .slice B kb cb] 29)) := (Below.refl _ _).alloc (Nat.le_refl _) _
        have HBA := Lib.hid (HB8.out.trans ((hb9.trans (hba.mono hb9.size)).mono HB8.out.size))
        have HRB := Lib.hid (hrb.below hba)
        have hs9 := (hba.block w.heap.size (Nat.lt_of_lt_of_le HZ8.out.2 hb9.size)).trans ((hb9.block w.heap.size HZ8.out.2).trans HS8.out)
        have hn9 := (hba.block w3.heap.size (Nat.lt_of_lt_of_le HZ8.out.1 hb9.size)).trans ((hb9.block w3.heap.size HZ8.out.1).trans HN8.out)
        have hx9 := heap_alloc_new w9 (.cells #[.int .i64 s.gen, .int .i64 s.app, .int .i64 s.next, .slice B kb cb] 29)
        have HKB := Lib.hid hkb
        have HBN := Lib.hid hbn
        obtain ⟨r0, r1, r2, r3, rf⟩ := box4 hs9
        obtain ⟨n0, n1, n2, n3, nf⟩ := box4 hn9
        obtain ⟨x0, x1, x2, x3, xf⟩ := box4 hx9
        clear hrb hbn hkb hb9 hba HLD HS8 HN8
        have htn : RdN (w9.alloc (.cells #[.int .i64 s.gen, .int .i64 s.app, .int .i64 s.next, .slice B kb cb] 29)) A k nx.tabs := by have h5 := HH.out.below HBA.out; have h6 : nx.tabs = s.tabs := (by rw [HNX.out]); rw [h6]; exact h5
        have HRR := Lib.hid (rright_calls nx A k c (w9.alloc (.cells #[.int .i64 s.gen, .int .i64 s.app, .int .i64 s.next, .slice B kb cb] 29)) htn (by omega))
        have HS9 := Lib.hid hs9
        have HN9 := Lib.hid hn9
        have HX9 := Lib.hid hx9
        have hsz : w9.heap.size < (w9.alloc (.cells #[.int .i64 s.gen, .int .i64 s.app, .int .i64 s.next, .slice B kb cb] 29)).heap.size := by simp
        have HSZ := Lib.hid hsz
        have HLT : Hid (w.heap.size < (w9.alloc (.cells #[.int .i64 s.gen, .int .i64 s.app, .int .i64 s.next, .slice B kb cb] 29)).heap.size ∧ w3.heap.size < (w9.alloc (.cells #[.int .i64 s.gen, .int .i64 s.app, .int .i64 s.next, .slice B kb cb] 29)).heap.size) := ⟨by have := (Array.getElem?_eq_some_iff.1 hs9).1; exact this, by have := (Array.getElem?_eq_some_iff.1 hn9).1; exact this⟩
        clear hs9 hn9 hx9 htn hsz
        go_wp2_with fail
        rw [HVN.out]
        refine HRR.out.mono ?_
        rintro e w10 ⟨rfl, hb10⟩
        rw [HRN.out]
        have HB10 := Lib.hid (HBA.out.trans (hb10.mono HBA.out.size))
        have HRB10 := Lib.hid (HRB.out.below hb10)
        clear r0 r1 r2 r3 rf n0 n1 n2 n3 nf x0 x1 x2 x3 xf
        obtain ⟨r0, r1, r2, r3, rf⟩ := box4 ((hb10.block w.heap.size HLT.out.1).trans HS9.out)
        obtain ⟨n0, n1, n2, n3, nf⟩ := box4 ((hb10.block w3.heap.size HLT.out.2).trans HN9.out)
        obtain ⟨x0, x1, x2, x3, xf⟩ := box4 ((hb10.block w9.heap.size HSZ.out).trans HX9.out)
        have HSM := Lib.hid (same_calls s s B A kb k cb c w10 HRB10.out (HH.out.below HB10.out) HAN.out (by have := HKB.out; omega) (by omega))
        clear hb10 HRR
        go_wp2_with fail
        refine HSM.out.mono ?_
        rintro e w11 ⟨rfl, hb11⟩
        rw [show decide True = true from rfl]
        have HBX := Lib.hid (HB10.out.trans (hb11.mono HB10.out.size))
        clear hb11 HSM
        go_wp2_with fail
        go_ret
        exact ⟨rfl, HBX.out⟩
      | true =>
        have HFT : Hid (fitsS [s] nx = true) := by unfold Hid fitsS; rw [hrn, HNX.out]; have : gen = s.gen + 1 := hge.trans HG1.out; simp [lastS, this]
        have hq : (gen == g1) = true := by simpa using hge
        have HRN := Lib.hid hrn
        clear hrn
        have HSV := Lib.hid (invS_yes HI7.out nx HFT.out (some ⟨g7, 0, none⟩) k mc7 HT7.out (fun e => by cases e) (by omega) (by have h1 := frame_len HR.out; have h2 := frame_len HRN.out; rw [file_one]; omega))
        rw [HVM.out] at HSV
        clear hge
        go_wp2_with fail
        refine HSV.out.mono ?_
        rintro e w8 ⟨rfl, hi, ho⟩
        have HB8 := Lib.hid (HB7.out.trans (ho.below HB7.out.size fun k hk => by have h1 := HB1.out.size; have h2 := HB5.out.size; rcases hk with hk | hk; exact Nat.le_trans h1 hk.1; exact Nat.le_trans h2 hk))
        have hs8 : w8.heap[w.heap.size]? = some (.cells #[.int .i64 s.gen, .int .i64 s.app, .int .i64 s.next, .slice A k c] 24) := by
          have h1 := HZ1.out
          have h3 := HZ3.out
          have h6 := HZ6.out
          have h7 := HZ7.out
          rw [ho.block w.heap.size (by omega) (by rintro (h | h); exact absurd h.1 (by omega); exact absurd h (by omega))]
          exact HS7.out
        have hn8 : w8.heap[w3.heap.size]? = some (.cells #[.int .i64 gen, .int .i64 s.app, .int .i64 s.next, .slice A k c] 24) := by
          have h6 := HZ6.out
          have h7 := HZ7.out
          rw [ho.block w3.heap.size (by omega) (by rintro (h | h); exact absurd h.2 (by omega); exact absurd h (by omega))]
          exact HN7.out
        have HZ8 : Hid (w3.heap.size < w8.heap.size ∧ w.heap.size < w8.heap.size) := ⟨by have := HZ6.out; have := HZ7.out; have := ho.size; omega, by have := HZ1.out; have := HZ3.out; have := HZ6.out; have := HZ7.out; have := ho.size; omega⟩
        have HS8 := Lib.hid hs8
        have HN8 := Lib.hid hn8
        have hmo : moreS [s] nx = [s, nx] := if_neg (by rw [file_one]; have := frame_len HR.out; omega)
        rw [hmo] at hi
        have HLD := Lib.hid (invS_load hi)
        rw [show lastS firstS [s, nx] = nx from rfl] at HLD
        clear hmo
        clear hi ho hs8 hn8 HSV HI7 HS7 HN7
        go_wp2_with fail
        refine HLD.out.mono ?_
        rintro e w9 ⟨⟨B, kb, cb, rfl, hrb, hbn, hkb⟩, hb9⟩
        have hba : Below w9.heap.size w9 (w9.alloc (.cells #[.int .i64 nx.gen, .int .i64 nx.app, .int .i64 nx.next, .slice B kb cb] 29)) := (Below.refl _ _).alloc (Nat.le_refl _) _
        have HBA := Lib.hid (HB8.out.trans ((hb9.trans (hba.mono hb9.size)).mono HB8.out.size))
        have HRB := Lib.hid (hrb.below hba)
        have hs9 := (hba.block w.heap.size (Nat.lt_of_lt_of_le HZ8.out.2 hb9.size)).trans ((hb9.block w.heap.size HZ8.out.2).trans HS8.out)
        have hn9 := (hba.block w3.heap.size (Nat.lt_of_lt_of_le HZ8.out.1 hb9.size)).trans ((hb9.block w3.heap.size HZ8.out.1).trans HN8.out)
        have hx9 := heap_alloc_new w9 (.cells #[.int .i64 nx.gen, .int .i64 nx.app, .int .i64 nx.next, .slice B kb cb] 29)
        have HKB := Lib.hid hkb
        have HBN := Lib.hid hbn
        obtain ⟨r0, r1, r2, r3, rf⟩ := box4 hs9
        obtain ⟨n0, n1, n2, n3, nf⟩ := box4 hn9
        obtain ⟨x0, x1, x2, x3, xf⟩ := box4 hx9
        have HVX : Hid (nx.v B kb cb = .agg #[.int .i64 nx.gen, .int .i64 nx.app, .int .i64 nx.next, .slice B kb cb]) := rfl
        clear hrb hbn hkb hb9 hba HLD HS8 HN8
        have htn : RdN (w9.alloc (.cells #[.int .i64 nx.gen, .int .i64 nx.app, .int .i64 nx.next, .slice B kb cb] 29)) A k nx.tabs := by have h5 := HH.out.below HBA.out; have h6 : nx.tabs = s.tabs := (by rw [HNX.out]); rw [h6]; exact h5
        have HRR := Lib.hid (rright_calls nx A k c (w9.alloc (.cells #[.int .i64 nx.gen, .int .i64 nx.app, .int .i64 nx.next, .slice B kb cb] 29)) htn (by omega))
        have HS9 := Lib.hid hs9
        have HN9 := Lib.hid hn9
        have HX9 := Lib.hid hx9
        have hsz : w9.heap.size < (w9.alloc (.cells #[.int .i64 nx.gen, .int .i64 nx.app, .int .i64 nx.next, .slice B kb cb] 29)).heap.size := by simp
        have HSZ := Lib.hid hsz
        have HLT : Hid (w.heap.size < (w9.alloc (.cells #[.int .i64 nx.gen, .int .i64 nx.app, .int .i64 nx.next, .slice B kb cb] 29)).heap.size ∧ w3.heap.size < (w9.alloc (.cells #[.int .i64 nx.gen, .int .i64 nx.app, .int .i64 nx.next, .slice B kb cb] 29)).heap.size) := ⟨by have := (Array.getElem?_eq_some_iff.1 hs9).1; exact this, by have := (Array.getElem?_eq_some_iff.1 hn9).1; exact this⟩
        clear hs9 hn9 hx9 htn hsz
        go_wp2_with fail
        rw [HVN.out]
        refine HRR.out.mono ?_
        rintro e w10 ⟨rfl, hb10⟩
        rw [HRN.out]
        have HB10 := Lib.hid (HBA.out.trans (hb10.mono HBA.out.size))
        have HRB10 := Lib.hid (HRB.out.below hb10)
        clear r0 r1 r2 r3 rf n0 n1 n2 n3 nf x0 x1 x2 x3 xf
        obtain ⟨r0, r1, r2, r3, rf⟩ := box4 ((hb10.block w.heap.size HLT.out.1).trans HS9.out)
        obtain ⟨n0, n1, n2, n3, nf⟩ := box4 ((hb10.block w3.heap.size HLT.out.2).trans HN9.out)
        obtain ⟨x0, x1, x2, x3, xf⟩ := box4 ((hb10.block w9.heap.size HSZ.out).trans HX9.out)
        have htn : RdN w10 A k nx.tabs := by rw [HNX.out]; exact HH.out.below HB10.out
        have HSM := Lib.hid (same_calls nx nx B A kb k cb c w10 HRB10.out htn HAN.out (by have := HKB.out; omega) (by omega))
        have HVS : Hid (#[Value.agg #[.int .i64 nx.gen, .int .i64 nx.app, .int .i64 nx.next, .slice B kb cb], .agg #[.int .i64 gen, .int .i64 s.app, .int .i64 s.next, .slice A k c]] = #[nx.v B kb cb, nx.v A k c]) := by unfold Hid; rw [HNX.out]
        clear hb10 HRR htn
        go_wp2_with fail
        rw [HVS.out]
        refine HSM.out.mono ?_
        rintro e w11 ⟨rfl, hb11⟩
        rw [show decide True = true from rfl]
        have HBX := Lib.hid (HB10.out.trans (hb11.mono HB10.out.size))
        clear hb11 HSM
        go_wp2_with fail
        go_ret
        exact ⟨rfl, HBX.out⟩
    · skip
      have HFT : Hid (fitsS [s] nx = false) := by unfold Hid fitsS; rw [HNX.out]; have : ¬ gen = s.gen + 1 := fun h => hge (h.trans HG1.out.symm); simp [lastS, this]
      have hq : (gen == g1) = false := by simpa using hge
      have HSV := Lib.hid (invS_no HI7.out nx HFT.out (some ⟨g7, 0, none⟩) k mc7 HT7.out (fun e => by cases e) (by omega) (fun h => by have h1 := frame_len HR.out; have h2 := frame_len h; rw [file_one]; omega))
      rw [HVM.out] at HSV
      clear hge
      go_wp2_with fail
      refine HSV.out.mono ?_
      rintro e w8 ⟨rfl, hi, ho⟩
      have HB8 := Lib.hid (HB7.out.trans (ho.below HB7.out.size fun k hk => by have h1 := HB1.out.size; have h2 := HB5.out.size; rcases hk with hk | hk; exact Nat.le_trans h1 hk.1; exact Nat.le_trans h2 hk))
      have hs8 : w8.heap[w.heap.size]? = some (.cells #[.int .i64 s.gen, .int .i64 s.app, .int .i64 s.next, .slice A k c] 24) := by
        have h1 := HZ1.out
        have h3 := HZ3.out
        have h6 := HZ6.out
        have h7 := HZ7.out
        rw [ho.block w.heap.size (by omega) (by rintro (h | h); exact absurd h.1 (by omega); exact absurd h (by omega))]
        exact HS7.out
      have hn8 : w8.heap[w3.heap.size]? = some (.cells #[.int .i64 gen, .int .i64 s.app, .int .i64 s.next, .slice A k c] 24) := by
        have h6 := HZ6.out
        have h7 := HZ7.out
        rw [ho.block w3.heap.size (by omega) (by rintro (h | h); exact absurd h.2 (by omega); exact absurd h (by omega))]
        exact HN7.out
      have HZ8 : Hid (w3.heap.size < w8.heap.size ∧ w.heap.size < w8.heap.size) := ⟨by have := HZ6.out; have := HZ7.out; have := ho.size; omega, by have := HZ1.out; have := HZ3.out; have := HZ6.out; have := HZ7.out; have := ho.size; omega⟩
      have HS8 := Lib.hid hs8
      have HN8 := Lib.hid hn8
      have HLD := Lib.hid (invS_load hi)
      rw [show lastS firstS [s] = s from rfl] at HLD
      clear hi ho hs8 hn8 HSV HI7 HS7 HN7
      go_wp2_with fail
      refine HLD.out.mono ?_
      rintro e w9 ⟨⟨B, kb, cb, rfl, hrb, hbn, hkb⟩, hb9⟩
      have hba : Below w9.heap.size w9 (w9.alloc (.cells #[.int .i64 s.gen, .int .i64 s.app, .int .i64 s.next, .slice B kb cb] 29)) := (Below.refl _ _).alloc (Nat.le_refl _) _
      have HBA := Lib.hid (HB8.out.trans ((hb9.trans (hba.mono hb9.size)).mono HB8.out.size))
      have HRB := Lib.hid (hrb.below hba)
      have hs9 := (hba.block w.heap.size (Nat.lt_of_lt_of_le HZ8.out.2 hb9.size)).trans ((hb9.block w.heap.size HZ8.out.2).trans HS8.out)
      have hn9 := (hba.block w3.heap.size (Nat.lt_of_lt_of_le HZ8.out.1 hb9.size)).trans ((hb9.block w3.heap.size HZ8.out.1).trans HN8.out)
      have hx9 := heap_alloc_new w9 (.cells #[.int .i64 s.gen, .int .i64 s.app, .int .i64 s.next, .slice B kb cb] 29)
      have HKB := Lib.hid hkb
      have HBN := Lib.hid hbn
      obtain ⟨r0, r1, r2, r3, rf⟩ := box4 hs9
      obtain ⟨n0, n1, n2, n3, nf⟩ := box4 hn9
      obtain ⟨x0, x1, x2, x3, xf⟩ := box4 hx9
      clear hrb hbn hkb hb9 hba HLD HS8 HN8
      have HSM := Lib.hid (same_calls s s B A kb k cb c (w9.alloc (.cells #[.int .i64 s.gen, .int .i64 s.app, .int .i64 s.next, .slice B kb cb] 29)) HRB.out (HH.out.below HBA.out) HAN.out (by have := HKB.out; omega) (by omega))
      clear hs9 hn9 hx9
      go_wp2_with fail
      refine HSM.out.mono ?_
      rintro e w10 ⟨rfl, hb10⟩
      rw [show decide True = true from rfl]
      have HBX := Lib.hid (HBA.out.trans (hb10.mono HBA.out.size))
      clear hb10 HSM
      go_wp2_with fail
      go_ret
      exact ⟨rfl, HBX.out⟩
end Go.Proofs.Ytideokbaenkijaa
