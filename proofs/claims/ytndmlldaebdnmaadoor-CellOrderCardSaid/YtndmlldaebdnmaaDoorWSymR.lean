/-
  slices.symMergeCmpFunc at cells: one cell behind a sorted row.
-/
import Derived.Test.YtndmlldaebdnmaaDoorWSymL
namespace Go.Proofs.YtndmlldaebdnmaaDoor
open Go.RowKit

set_option maxHeartbeats 1000000 in
set_option maxRecDepth 20000 in
theorem symR_calls (base g n cap a m b : Nat) (L A : List Cell) (y : Cell) (R : List Cell) (w : World) (h : OwnC w base (some ⟨g, 0, none⟩) n cap (L ++ A ++ [y] ++ R)) (ha : a = L.length) (hm : m = a + A.length) (hb : b = m + 1) (hA : Mounts A) (hA1 : A.length ≠ 1) (hn : n ≤ 1000000) :
    Calls Tryd.prog 52 #[.slice (some ⟨g, 0, none⟩) n cap, .int .i64 a, .int .i64 m, .int .i64 b, ordF] w (SymOut base g n cap L A [y] R w) := by
  have hnl : n = L.length + A.length + 1 + R.length := by have := h.1; simp only [List.length_append, List.length_singleton] at this; omega
  have HO := Lib.hid h
  have HA := Lib.hid ha
  have HM := Lib.hid hm
  have HB := Lib.hid hb
  have HMA := Lib.hid hA
  have HNL := Lib.hid hnl
  obtain ⟨f1, f2⟩ : a ≤ m ∧ b ≤ n := by omega
  have t1 : ((m : Int) - (a : Int) == 1) = false := by rw [beq_eq_false_iff_ne]; omega
  have t2 : ((b : Int) - (m : Int) == 1) = true := by rw [beq_iff_eq]; omega
  have fm : m < b := by omega
  clear h ha hm hb hA hnl hA1
  go_enter Tryd.func52, Tryd.ntmps52
  go_wp2_with fail
  go_loopw [14, 15] (fun p q wr => ∃ i j : Nat, p = .int .i64 i ∧ q = .int .i64 j ∧ a ≤ i ∧ i ≤ j ∧ j ≤ m ∧ Hid (SymJ A y a i j) ∧ Hid (OwnC wr base (some ⟨g, 0, none⟩) n cap (L ++ A ++ [y] ++ R)) ∧ Hid (Below w.heap.size w wr)) (fun p q _ => (intOf q).toNat - (intOf p).toNat)
  case atStart => exact ⟨a, m, rfl, rfl, Nat.le_refl _, f1, Nat.le_refl _, by rw [HM.out]; exact SymJ.start A y a, HO.out, Below.refl _ _⟩
  case round =>
    clear HO t1 t2
    obtain ⟨i, j, rfl, rfl, h1, h2, h3, HS, HO, HBW⟩ := hrel
    by_cases hij : i < j
    · obtain ⟨k, hk⟩ : ∃ k, k = (i + j) / 2 := ⟨_, rfl⟩
      have hk2 : ((i : Int) + (j : Int)) / 2 = (k : Int) := by omega
      have k1 : i ≤ k := by omega
      have k2 : k < j := by omega
      obtain ⟨z, hz, hz8⟩ := rd8z (HO.out.rd Cell.l_len) k (by omega)
      obtain ⟨y', hy, hy8⟩ := rd8z (HO.out.rd Cell.l_len) m (by omega)
      have hy' : y' = y := by
        have e1 := HA.out
        have e2 := HM.out
        have e4 : m - (L ++ A).length = 0 := by simp; omega
        rw [List.append_assoc, List.getElem?_append_right (by simp; omega), e4] at hy
        exact (Option.some.inj hy).symm
      subst hy'
      have HZ : Hid (A[k - a]? = some z) := by
        have e1 := HA.out
        have e2 := HM.out
        rw [List.append_assoc, List.append_assoc, List.getElem?_append_right (by omega), List.getElem?_append_left (by omega)] at hz
        have e4 : k - L.length = k - a := by omega
        rw [e4] at hz
        exact hz
      obtain ⟨k0, k1', k2', k3, k4, k5, k6, k7⟩ := hz8.later
      obtain ⟨l0, l1, l2, l3, l4, l5, l6, l7⟩ := hy8.later
      have i0 : (0 : Int) ≤ (k : Int) := by omega
      have i1 : (k : Int) < (n : Int) := by omega
      have j0 : (0 : Int) ≤ (m : Int) := by omega
      have j1 : (m : Int) < (n : Int) := by omega
      clear hz hy hz8 hy8 hk
      go_wp2_with fail
      refine wp_region_later (by kernel_rfl) (by kernel_rfl) ?_
      repeat (go_big_quiet_step ((go_at_call 25; exact calls_later (order_calls y' z _))))
      refine wpQuiet_nil ?_
      intro W1 hW1
      have hBW : Below wr.heap.size wr W1 := by
        obtain ⟨X, rfl⟩ := hW1
        exact later_below wr X
      have HO1 := Lib.hid (HO.out.below hBW)
      have HBW1 := Lib.hid (HBW.out.trans (hBW.mono HBW.out.size))
      clear hW1 hBW HO HBW k0 k1' k2' k3 k4 k5 k6 k7 l0 l1 l2 l3 l4 l5 l6 l7 hk2
      cases hd : decide (y'.order z < 0) with
      | true =>
        have HS1 := Lib.hid (HS.out.down HMA.out k1 k2 HZ.out (of_decide_eq_true hd))
        go_wp2
        go_roundw
        case rel => exact ⟨i, k, rfl, rfl, h1, k1, by omega, HS1.out, HO1.out, HBW1.out⟩
        case measure => simp [intOf]; omega
      | false =>
        have HS1 := Lib.hid (HS.out.up HMA.out k1 k2 HZ.out (of_decide_eq_false hd))
        go_wp2
        go_roundw
        case rel => exact ⟨k + 1, j, by go_num, rfl, by omega, by omega, h3, HS1.out, HO1.out, HBW1.out⟩
        case measure => simp [intOf]; omega
    · obtain rfl : i = j := by omega
      have HMG := Lib.hid (HS.out.done HMA.out)
      clear h2 hij HS
      go_wp2_with fail
      go_loopw [17] (fun q wr => ∃ k p : Nat, q = .int .i64 k ∧ i ≤ k ∧ k ≤ m ∧ Hid (k = a + p) ∧ Hid (OwnC wr base (some ⟨g, 0, none⟩) n cap (L ++ (A.take p ++ y :: A.drop p) ++ R)) ∧ Hid (Only (fun x => x = g) w wr)) (fun q _ => (intOf q).toNat)
      case atStart => exact ⟨m, A.length, rfl, h3, Nat.le_refl _, HM.out, Lib.hid (by have h := HO.out; simpa using h), HBW.out.only _⟩
      case round =>
        clear HO HBW
        obtain ⟨k, p, rfl, h4, h5, HP, HO, HON⟩ := hrel
        by_cases hlt : i < k
        · obtain ⟨j, rfl⟩ : ∃ j, k = j + 1 := ⟨k - 1, by omega⟩
          obtain ⟨p, rfl⟩ : ∃ p', p = p' + 1 := ⟨p - 1, by have := HP.out; omega⟩
          obtain ⟨k, hj⟩ : ∃ k, k = j + 1 := ⟨_, rfl⟩
          rw [← hj] at h4 h5 hlt HP ⊢
          have hdl : Hid (p < A.length) := by
            have e1 := HP.out; have e2 := HM.out
            unfold Hid; omega
          obtain ⟨u, hx, hx8⟩ := rd8z (HO.out.rd Cell.l_len) k (by omega)
          obtain ⟨v, hy, hy8⟩ := rd8z (HO.out.rd Cell.l_len) j (by omega)
          obtain ⟨k0, k1, k2, k3, k4, k5, k6, k7⟩ := hx8.get
          obtain ⟨l0, l1, l2, l3, l4, l5, l6, l7⟩ := hy8.get
          have hfz : ∀ q, wr.frozen? ⟨g, q, none⟩ = false := HO.out.2.frozenAt
          have ej : wrap64 ((k : Int) - 1) = (j : Int) := by unfold wrap64; omega
          have ej2 : (k : Int) - 1 = (j : Int) := by omega
          have i0 : (0 : Int) ≤ (k : Int) := by omega
          have i1 : (k : Int) < (n : Int) := by omega
          have j0 : (0 : Int) ≤ (j : Int) := by omega
          have j1 : (j : Int) < (n : Int) := by omega
          have hij : ¬ k = j := by omega
          have HIJ := Lib.hid hij
          have HXX := Lib.hid hx
          have HYY := Lib.hid hy
          have HJ := Lib.hid hj
          clear hx hy hx8 hy8 hj
          go_wp2
          go_region
          have E1 := own_set8 HO.out k v u HXX.out
          have E2 := own_set8 E1 j u v (by rw [List.getElem?_set, if_neg HIJ.out]; exact HYY.out)
          have hs : (((L ++ (A.take (p + 1) ++ y :: A.drop (p + 1)) ++ R).set k v).set j u) = L ++ (A.take p ++ y :: A.drop p) ++ R := by
            rw [← swap_left L A R y p j (by rw [← HA.out]; have e1 := HP.out; have e2 := HJ.out; omega) hdl.out, swapC, ← HJ.out, List.getD_eq_getElem?_getD, List.getD_eq_getElem?_getD, HXX.out, HYY.out]
            rfl
          rw [hs] at E2
          have E3 : Hid (OwnC (World.drew (set8 (set8 wr g (k * 8) v) g (j * 8) u)) base (some ⟨g, 0, none⟩) n cap (L ++ (A.take p ++ y :: A.drop p) ++ R)) := Lib.hid (E2.below (below_drew1 _))
          have HN3 : Hid (Only (fun x => x = g) w (World.drew (set8 (set8 wr g (k * 8) v) g (j * 8) u))) := Lib.hid ((HON.out.trans ((set8_only wr g (k * 8) v).trans (set8_only _ g (j * 8) u))).trans ((below_drew1 _).only _))
          clear E1 E2 hs HO HON k0 k1 k2 k3 k4 k5 k6 k7 l0 l1 l2 l3 l4 l5 l6 l7 hfz
          generalize World.drew (set8 (set8 wr g (k * 8) v) g (j * 8) u) = wf at E3 HN3 ⊢
          go_wp2
          go_roundw
          case rel => exact ⟨j, p, rfl, by have := HJ.out; omega, by have := HJ.out; omega, by have e1 := HJ.out; have e2 := HP.out; show _ = _; omega, E3.out, HN3.out⟩
          case measure => have := HJ.out; simp [intOf]; omega
        · have hk : p = i - a := by have e1 := HP.out; omega
          have HK := Lib.hid hk
          clear hk
          go_wp2
          go_end0
          exact ⟨rfl, _, HMG.out, by rw [← HK.out]; exact HO.out, HON.out⟩
end Go.Proofs.YtndmlldaebdnmaaDoor
