/-
  manifest.Right, walked.
-/
import Derived.Test.YtideokbaenkijaaMRightP
namespace Go.Proofs.Ytideokbaenkijaa
open Go.RowKit

theorem own_block {w : World} {base g n cap : Nat} {ts : List Int} (h : OwnN w base (some ⟨g, 0, none⟩) n cap ts) : ∃ cur : Array Value, w.heap[g]? = some (.cells cur 3 (0, 0)) ∧ base ≤ g ∧ n ≤ cap ∧ cap ≤ maxLen ∧ cur.size = cap * 1 ∧ cur.toList.take ts.length = ts.map (Value.int .i64) := by
  obtain ⟨h0, h1, ⟨h2, _⟩ | ⟨g', cap', cur, h3, h4, h5, h6, h7, h8, h9⟩⟩ := h
  · cases h2
  · injection h3 with h3 _ h10
    injection h3 with h3
    injection h3 with h3
    subst h3 h10
    rw [flatN] at h9
    exact ⟨cur, h5, h4, h6, h7, h8, by rw [← h0]; simpa using h9⟩
/-- slices.Sort of ints that are one's own. -/
theorem nsort_calls (g k m base : Nat) (ts : List Int) (w : World) (h : OwnN w base (some ⟨g, 0, none⟩) k m ts) (hk : k ≤ 1000000) (hbase : base ≤ w.heap.size) :
    Calls Try.prog 36 #[.slice (some ⟨g, 0, none⟩) k m] w fun e w' => e = .returned (.tuple #[]) ∧ OwnN w' base (some ⟨g, 0, none⟩) k m (sortZ ts) ∧ Below base w w' := by
  obtain ⟨cur, c1, c2, c3, c4, c5, c6⟩ := own_block h
  have hl := h.1
  subst hl
  refine (Try.slices_Sort_int g 0 m ts w (holds_of_blockI c1 c6) (Array.getElem?_eq_some_iff.1 c1).1 (by omega)).mono ?_
  rintro e w' ⟨rfl, n, os, rfl⟩
  refine ⟨rfl, ⟨(sortZ_len ts).symm, ?_⟩, ?_⟩
  · rw [flatN]
    exact ownsRow_sortedI (sortZ_len ts) c2 c1 c3 c4 c5
  · exact (grownBy_only (grownBy_sortedI _)).below hbase fun i hi => by injection hi with hi; omega
/-- slices.Compact of sorted ints that are one's own: how many are left. -/
theorem ncompact_calls (g k m base : Nat) (ts : List Int) (w : World) (h : OwnN w base (some ⟨g, 0, none⟩) k m ts) (hk : k ≤ 1000000) :
    Calls Try.prog 37 #[.slice (some ⟨g, 0, none⟩) k m] w fun e w' => e = .returned (.slice (some ⟨g, 0, none⟩) (Lib.compact ts).length m) ∧ Below base w w' := by
  obtain ⟨cur, c1, c2, c3, c4, c5, c6⟩ := own_block h
  have hl := h.1
  subst hl
  refine (Try.slices_Compact_int g 0 m ts w (holds_of_blockI c1 c6) (by omega) c3).mono ?_
  rintro e w' ⟨rfl, q, rfl⟩
  exact ⟨rfl, Lib.below_putRow (Below.refl _ _) c2⟩

set_option maxHeartbeats 4000000 in
set_option maxRecDepth 20000 in
theorem right_calls (s : StateD) (A : Option Addr) (k c : Nat) (w : World) (h : RdN w A k s.tabs) (hk : k ≤ 1000000000) :
    Calls Try.prog 15 #[.agg #[.int .i64 s.gen, .int .i64 s.app, .int .i64 s.next, .slice A k c]] w fun e w' => e = .returned (.bool (rightS s)) ∧ Below w.heap.size w w' := by
  have HLN := Lib.hid h.len
  obtain ⟨hbx, cv⟩ := one_box w #[.int .i64 s.gen, .int .i64 s.app, .int .i64 s.next, .slice A k c] 29
  have b0 := cv 0 _ rfl
  have b1 := cv 1 _ rfl
  have b2 := cv 2 _ rfl
  have b3 := cv 3 _ rfl
  have h := h.below hbx
  have HBX := Lib.hid hbx
  clear cv hbx
  by_cases c_g0 : s.gen < 1
  · rw [not_right fun r => by have := r.g0; omega]
    clear h
    go_enter Try.func15, Try.ntmps15
    go_wp2_with fail
    go_ret
    exact ⟨rfl, HBX.out⟩
  by_cases c_g1 : s.gen > 1099511627776
  · rw [not_right fun r => by have := r.g1; omega]
    clear h
    go_enter Try.func15, Try.ntmps15
    go_wp2_with fail
    go_ret
    exact ⟨rfl, HBX.out⟩
  by_cases c_a0 : s.app < 0
  · rw [not_right fun r => by have := r.a0; omega]
    clear h
    go_enter Try.func15, Try.ntmps15
    go_wp2_with fail
    go_ret
    exact ⟨rfl, HBX.out⟩
  by_cases c_a1 : s.app > 1099511627776
  · rw [not_right fun r => by have := r.a1; omega]
    clear h
    go_enter Try.func15, Try.ntmps15
    go_wp2_with fail
    go_ret
    exact ⟨rfl, HBX.out⟩
  by_cases c_n0 : s.next < 1
  · rw [not_right fun r => by have := r.n0; omega]
    clear h
    go_enter Try.func15, Try.ntmps15
    go_wp2_with fail
    go_ret
    exact ⟨rfl, HBX.out⟩
  by_cases c_n1 : s.next > 999999
  · rw [not_right fun r => by have := r.n1; omega]
    clear h
    go_enter Try.func15, Try.ntmps15
    go_wp2_with fail
    go_ret
    exact ⟨rfl, HBX.out⟩
  by_cases c_few : (k : Int) > 50
  · rw [not_right fun r => by have := r.few; have := HLN.out; omega]
    clear h
    go_enter Try.func15, Try.ntmps15
    go_wp2_with fail
    go_ret
    exact ⟨rfl, HBX.out⟩
  have hk50 : k ≤ 50 := by omega
  have HCL := Lib.hid (nclone_calls A k c s.tabs _ h (by omega))
  clear h
  go_enter Try.func15, Try.ntmps15
  go_wp2_with fail
  refine HCL.out.mono ?_
  rintro e w1 ⟨B, m, rfl, ho, hb1⟩
  have HB1 := Lib.hid (HBX.out.trans (hb1.mono HBX.out.size))
  have d2 := below_cell hb1 (Nat.le_refl _) b2
  have d3 := below_cell hb1 (Nat.le_refl _) b3
  have hlo : w.heap.size < (w.alloc (.cells #[.int .i64 s.gen, .int .i64 s.app, .int .i64 s.next, .slice A k c] 29)).heap.size := by simp
  have HLO := Lib.hid hlo
  clear b0 b1 b2 b3 hlo
  rcases Nat.eq_zero_or_pos k with h0 | h0
  · subst h0
    have ht : s.tabs = [] := List.eq_nil_of_length_eq_zero HLN.out.symm
    have hr : rightS s = true := right_iff.2 ⟨by omega, by omega, by omega, by omega, by omega, by omega, by rw [ht]; simp, by rw [ht]; simp, by rw [ht]; simp, by rw [ht]; simp⟩
    have HRT := Lib.hid hr
    clear hr ht ho hb1 HCL
    go_wp2_with fail
    refine (Try.slices_Sort_int_none B m w1).mono ?_
    rintro e w2 ⟨rfl, rfl⟩
    have hz : ¬ ((0 : Nat) : Int) > 0 := by omega
    go_wp2
    go_quiet (fail)
    have HBD := Lib.hid (HB1.out.trans ((drewN_below w2 nq).mono HB1.out.size))
    have e3 : (w2.drewN nq).drew.cell? ⟨w.heap.size, 3, none⟩ = some (.slice A 0 c) := d3
    have HBE : Hid (Below w.heap.size w (w2.drewN nq).drew) := HBD.out.trans ((below_drew1 (w2.drewN nq)).mono HBD.out.size)
    have HCE := Lib.hid (Try.slices_Compact_int_empty B m (w2.drewN nq).drew)
    go_wp2_with fail
    go_region_law (go_simp; go_wp2_with (go_at_call 37; refine HCE.out.mono ?_; rintro e w3 ⟨rfl, rfl⟩))
    all_goals
      go_wp2
      go_ret
      exact ⟨by rw [HRT.out]; rfl, HBE.out⟩
  · obtain ⟨g, rfl⟩ : ∃ g, B = some ⟨g, 0, none⟩ := by
      rcases ho.shape with ⟨_, h⟩ | ⟨g, h, _⟩
      · have := ho.1; rw [h] at this; simp at this; omega
      · exact ⟨g, h⟩
    have HST := Lib.hid (nsort_calls g k m _ s.tabs w1 ho (by omega) hb1.size)
    clear ho hb1 HCL
    go_wp2_with fail
    refine HST.out.mono ?_
    rintro e w2 ⟨rfl, ho2, hb2⟩
    have f2 := (hb2.cell (p := ⟨w.heap.size, 2, none⟩) HLO.out).trans d2
    have f3 := (hb2.cell (p := ⟨w.heap.size, 3, none⟩) HLO.out).trans d3
    obtain ⟨n, hkn⟩ : ∃ n, k = n + 1 := ⟨k - 1, by omega⟩
    have HKN := Lib.hid hkn
    have HSL : Hid ((sortZ s.tabs).length = n + 1) := by unfold Hid; rw [sortZ_len, ← hkn]; exact HLN.out.symm
    have hrd := ho2.rd encN_len
    obtain ⟨x0, b, o, hx0, e, _, hc0⟩ := hrd.get 0 (by omega)
    cases e
    obtain ⟨x1, b, o, hx1, e, _, hc1⟩ := hrd.get n (by omega)
    cases e
    have z0 := hc0 0 _ rfl
    have z1 := hc1 0 _ rfl
    simp only [Nat.mul_one, Nat.add_zero, Nat.zero_add] at z0 z1
    have hl0 : (∀ t ∈ s.tabs, 1 ≤ t) ↔ 1 ≤ x0 := by
      rw [low_all (by rw [HSL.out]; omega) 1]
      rw [List.getElem?_eq_getElem (by rw [HSL.out]; omega)] at hx0
      injection hx0 with hx0
      rw [hx0]
    have hh1 : (∀ t ∈ s.tabs, t < s.next) ↔ x1 < s.next := by
      rw [high_all HSL.out s.next]
      rw [List.getElem?_eq_getElem (by rw [HSL.out]; omega)] at hx1
      injection hx1 with hx1
      rw [hx1]
    have HL0 := Lib.hid hl0
    have HH1 := Lib.hid hh1
    have HB2 := Lib.hid (HB1.out.trans (hb2.mono (Nat.le_of_lt HLO.out)))
    have HCP : Hid (∀ q, Calls Try.prog 37 #[.slice (some ⟨g, 0, none⟩) k m] (w2.drewN q) fun e w' => e = .returned (.slice (some ⟨g, 0, none⟩) (Lib.compact (sortZ s.tabs)).length m) ∧ Below _ (w2.drewN q) w') := fun q => ncompact_calls g k m _ (sortZ s.tabs) _ (ho2.below (drewN_below w2 q)) (by omega)
    have hn1 : (k : Int) > 0 := by omega
    have hnw : wrap64 ((k : Int) - 1) = (n : Int) := by unfold wrap64; omega
    have hnw2 : IntKind.i64.wrap ((k : Int) - 1) = (n : Int) := by rw [wrap_i64_small _ (by omega) (by omega)]; omega
    have hnl : n < k := by omega
    clear hkn
    have HRP : Hid ((1 ≤ x0 ∧ x1 < s.next) → (rightS s = true ↔ s.tabs.Nodup)) := fun ⟨h1, h2⟩ => ⟨fun r => (right_iff.1 r).once, fun nd => right_iff.2 ⟨by omega, by omega, by omega, by omega, by omega, by omega, by rw [← HLN.out]; have := HKN.out; omega, HL0.out.2 h1, HH1.out.2 h2, nd⟩⟩
    clear hrd hx0 hx1 hc0 hc1 hl0 hh1 hb2 ho2 HST
    by_cases hx : x0 < 1
    · have HRF : Hid (rightS s = false) := not_right fun r => by have := HL0.out.1 r.low; omega
      go_wp2
      go_quiet (fail)
      have HBD := Lib.hid (HB2.out.trans ((drewN_below w2 nq).mono HB2.out.size))
      go_wp2
      go_ret
      exact ⟨by rw [HRF.out]; rfl, HBD.out⟩
    by_cases hy : x1 ≥ s.next
    · have HRF : Hid (rightS s = false) := not_right fun r => by have := HH1.out.1 r.high; omega
      go_wp2
      go_quiet (fail)
      have HBD := Lib.hid (HB2.out.trans ((drewN_below w2 nq).mono HB2.out.size))
      go_wp2
      go_ret
      exact ⟨by rw [HRF.out]; rfl, HBD.out⟩
    have HRQ := Lib.hid (HRP.out ⟨by omega, by omega⟩)
    clear HRP HL0 HH1
    go_wp2
    go_quiet (fail)
    have HBD := Lib.hid (HB2.out.trans ((drewN_below w2 nq).mono HB2.out.size))
    have f3' : (w2.drewN nq).drew.cell? ⟨w.heap.size, 3, none⟩ = some (.slice A k c) := f3
    have HBE : Hid (Below w.heap.size w (w2.drewN nq).drew) := HBD.out.trans ((below_drew1 (w2.drewN nq)).mono HBD.out.size)
    have HCE := Lib.hid (HCP.out (nq + 1))
    have hcl := compact_len (sortZ s.tabs) (sortZ_up _)
    rw [HSL.out, (sortZ_perm s.tabs).nodup_iff] at hcl
    obtain ⟨q, hq⟩ : ∃ q, q = (Lib.compact (sortZ s.tabs)).length := ⟨_, rfl⟩
    rw [← hq] at hcl HCE
    have HCL2 := Lib.hid hcl
    clear hcl hq HCP
    go_wp2_with fail
    go_region_law (go_simp; go_wp2_with (go_at_call 37; refine HCE.out.mono ?_; rintro e w3 ⟨rfl, hb3⟩; have j3 := (hb3.cell (p := ⟨w.heap.size, 3, none⟩) HLO.out).trans f3'; have HB3 := Lib.hid (HBE.out.trans (hb3.mono (Nat.le_of_lt HLO.out))); clear hb3))
    all_goals
      go_wp2
      go_ret
      refine ⟨ret_bool ?_, HB3.out⟩
      rw [Bool.eq_iff_iff, HRQ.out, ← HCL2.out]
      have := HKN.out
      simp
      omega
end Go.Proofs.Ytideokbaenkijaa
