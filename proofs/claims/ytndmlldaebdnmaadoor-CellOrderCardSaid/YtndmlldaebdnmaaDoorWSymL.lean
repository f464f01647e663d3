/-
  slices.symMergeCmpFunc at cells: one cell ahead of a sorted row.
-/
import Derived.Test.YtndmlldaebdnmaaDoorWRot
import Derived.Test.YtndmlldaebdnmaaDoorWSymP
namespace Go.Proofs.YtndmlldaebdnmaaDoor
open Go.RowKit

abbrev ordF : Value := .func (.func 25) #[] #[]
/-- What making two sorted neighbours one leaves. -/
def SymOut (base g n cap : Nat) (L A B R : List Cell) (w : World) (e : Ending) (w' : World) : Prop := e = .returned (.tuple #[]) ∧ ∃ M, Merges A B M ∧ OwnC w' base (some ⟨g, 0, none⟩) n cap (L ++ M ++ R) ∧ Only (fun k => k = g) w w'

set_option maxHeartbeats 1000000 in
set_option maxRecDepth 20000 in
theorem symL_calls (base g n cap a m b : Nat) (L : List Cell) (x : Cell) (B R : List Cell) (w : World) (h : OwnC w base (some ⟨g, 0, none⟩) n cap (L ++ [x] ++ B ++ R)) (ha : a = L.length) (hm : m = a + 1) (hb : b = m + B.length) (hB : Mounts B) (hn : n ≤ 1000000) :
    Calls Tryd.prog 52 #[.slice (some ⟨g, 0, none⟩) n cap, .int .i64 a, .int .i64 m, .int .i64 b, ordF] w (SymOut base g n cap L [x] B R w) := by
  have hnl : n = L.length + 1 + B.length + R.length := by have := h.1; simp only [List.length_append, List.length_singleton] at this; omega
  have HO := Lib.hid h
  have HA := Lib.hid ha
  have HM := Lib.hid hm
  have HB := Lib.hid hb
  have HMB := Lib.hid hB
  have HNL := Lib.hid hnl
  obtain ⟨f1, f2⟩ : m ≤ b ∧ b ≤ n := by omega
  have t1 : ((m : Int) - (a : Int) == 1) = true := by rw [beq_iff_eq]; omega
  have fm : a < m := by omega
  clear h ha hm hb hB hnl
  go_enter Tryd.func52, Tryd.ntmps52
  go_wp2_with fail
  go_loopw [10, 11] (fun p q wr => ∃ i j : Nat, p = .int .i64 i ∧ q = .int .i64 j ∧ m ≤ i ∧ i ≤ j ∧ j ≤ b ∧ Hid (SymI B x m i j) ∧ Hid (OwnC wr base (some ⟨g, 0, none⟩) n cap (L ++ [x] ++ B ++ R)) ∧ Hid (Below w.heap.size w wr)) (fun p q _ => (intOf q).toNat - (intOf p).toNat)
  case atStart => exact ⟨m, b, rfl, rfl, Nat.le_refl _, f1, Nat.le_refl _, by rw [HB.out]; exact SymI.start B x m, HO.out, Below.refl _ _⟩
  case round =>
    clear HO t1
    obtain ⟨i, j, rfl, rfl, h1, h2, h3, HS, HO, HBW⟩ := hrel
    by_cases hij : i < j
    · obtain ⟨k, hk⟩ : ∃ k, k = (i + j) / 2 := ⟨_, rfl⟩
      have hk2 : ((i : Int) + (j : Int)) / 2 = (k : Int) := by omega
      have k1 : i ≤ k := by omega
      have k2 : k < j := by omega
      obtain ⟨z, hz, hz8⟩ := rd8z (HO.out.rd Cell.l_len) k (by omega)
      obtain ⟨x', hx, hx8⟩ := rd8z (HO.out.rd Cell.l_len) a (by omega)
      have hx' : x' = x := by
        rw [HA.out, List.append_assoc, List.append_assoc, List.getElem?_append_right (Nat.le_refl _), Nat.sub_self] at hx
        exact (Option.some.inj hx).symm
      subst hx'
      have HZ : Hid (B[k - m]? = some z) := by
        have e1 := HA.out
        have e2 := HM.out
        have e3 := HB.out
        rw [List.append_assoc, List.getElem?_append_right (by simp; omega), List.getElem?_append_left (by simp; omega)] at hz
        have e4 : k - (L ++ [x']).length = k - m := by simp; omega
        rw [e4] at hz
        exact hz
      obtain ⟨k0, k1', k2', k3, k4, k5, k6, k7⟩ := hz8.later
      obtain ⟨l0, l1, l2, l3, l4, l5, l6, l7⟩ := hx8.later
      have i0 : (0 : Int) ≤ (k : Int) := by omega
      have i1 : (k : Int) < (n : Int) := by omega
      have j0 : (0 : Int) ≤ (a : Int) := by omega
      have j1 : (a : Int) < (n : Int) := by omega
      clear hz hx hz8 hx8 hk
      go_wp2_with fail
      refine wp_region_later (by kernel_rfl) (by kernel_rfl) ?_
      repeat (go_big_quiet_step ((go_at_call 25; exact calls_later (order_calls z x' _))))
      refine wpQuiet_nil ?_
      intro W1 hW1
      have hBW : Below wr.heap.size wr W1 := by
        obtain ⟨X, rfl⟩ := hW1
        exact later_below wr X
      have HO1 := Lib.hid (HO.out.below hBW)
      have HBW1 := Lib.hid (HBW.out.trans (hBW.mono HBW.out.size))
      clear hW1 hBW HO HBW k0 k1' k2' k3 k4 k5 k6 k7 l0 l1 l2 l3 l4 l5 l6 l7 hk2
      by_cases hlt : z.order x' < 0
      · have HS1 := Lib.hid (HS.out.up HMB.out k1 k2 HZ.out hlt)
        go_wp2
        go_roundw
        case rel => exact ⟨k + 1, j, by go_num, rfl, by omega, by omega, h3, HS1.out, HO1.out, HBW1.out⟩
        case measure => simp [intOf]; omega
      · have HS1 := Lib.hid (HS.out.down HMB.out k1 k2 HZ.out hlt)
        go_wp2
        go_roundw
        case rel => exact ⟨i, k, rfl, rfl, h1, k1, by omega, HS1.out, HO1.out, HBW1.out⟩
        case measure => simp [intOf]; omega
    · obtain rfl : i = j := by omega
      have HMG := Lib.hid (HS.out.done HMB.out)
      have hi2 : i ≤ b := by omega
      obtain ⟨d, hd⟩ : ∃ d, d = i - m := ⟨_, rfl⟩
      have HD := Lib.hid hd
      clear hd h2 h3 hij HS
      go_wp2_with fail
      go_loopw [13] (fun q wr => ∃ k p : Nat, q = .int .i64 k ∧ k + 1 ≤ i ∧ Hid (k = a + p) ∧ Hid (OwnC wr base (some ⟨g, 0, none⟩) n cap (L ++ (B.take p ++ x :: B.drop p) ++ R)) ∧ Hid (Only (fun x => x = g) w wr)) (fun q _ => i - (intOf q).toNat)
      case atStart => exact ⟨a, 0, rfl, by omega, rfl, Lib.hid (by have h := HO.out; simpa using h), HBW.out.only _⟩
      case round =>
        clear HO HBW
        obtain ⟨k, p, rfl, h4, HP, HO, HON⟩ := hrel
        by_cases hlt : k + 1 < i
        · obtain ⟨j, hj⟩ : ∃ j, j = k + 1 := ⟨_, rfl⟩
          have hdl : Hid (p < B.length) := by
            have e1 := HP.out; have e2 := HM.out; have e3 := HB.out
            unfold Hid; omega
          obtain ⟨u, hx, hx8⟩ := rd8z (HO.out.rd Cell.l_len) k (by omega)
          obtain ⟨v, hy, hy8⟩ := rd8z (HO.out.rd Cell.l_len) j (by omega)
          obtain ⟨k0, k1, k2, k3, k4, k5, k6, k7⟩ := hx8.get
          obtain ⟨l0, l1, l2, l3, l4, l5, l6, l7⟩ := hy8.get
          have hfz : ∀ q, wr.frozen? ⟨g, q, none⟩ = false := HO.out.2.frozenAt
          have ej : wrap64 ((k : Int) + 1) = (j : Int) := by unfold wrap64; omega
          have ej2 : (k : Int) + 1 = (j : Int) := by omega
          have i0 : (0 : Int) ≤ (k : Int) := by omega
          have i1 : (k : Int) < (n : Int) := by omega
          have j0 : (0 : Int) ≤ (j : Int) := by omega
          have j1 : (j : Int) < (n : Int) := by omega
          have hij : ¬ k = j := by omega
          have HIJ := Lib.hid hij
          have HXX := Lib.hid hx
          have HYY := Lib.hid hy
          have HJ := Lib.hid hj
          have ht : (k : Int) < (i : Int) - 1 := by omega
          clear hx hy hx8 hy8 hj
          go_wp2
          go_region
          have E1 := own_set8 HO.out k v u HXX.out
          have E2 := own_set8 E1 j u v (by rw [List.getElem?_set, if_neg HIJ.out]; exact HYY.out)
          have hs : (((L ++ (B.take p ++ x :: B.drop p) ++ R).set k v).set j u) = L ++ (B.take (p + 1) ++ x :: B.drop (p + 1)) ++ R := by
            rw [← swap_right L B R x p k (by rw [← HA.out]; exact HP.out) hdl.out, swapC, ← HJ.out, List.getD_eq_getElem?_getD, List.getD_eq_getElem?_getD, HXX.out, HYY.out]
            rfl
          rw [hs] at E2
          have E3 : Hid (OwnC (World.drew (set8 (set8 wr g (k * 8) v) g (j * 8) u)) base (some ⟨g, 0, none⟩) n cap (L ++ (B.take (p + 1) ++ x :: B.drop (p + 1)) ++ R)) := Lib.hid (E2.below (below_drew1 _))
          have HN3 : Hid (Only (fun x => x = g) w (World.drew (set8 (set8 wr g (k * 8) v) g (j * 8) u))) := Lib.hid ((HON.out.trans ((set8_only wr g (k * 8) v).trans (set8_only _ g (j * 8) u))).trans ((below_drew1 _).only _))
          clear E1 E2 hs HO HON k0 k1 k2 k3 k4 k5 k6 k7 l0 l1 l2 l3 l4 l5 l6 l7 hfz
          generalize World.drew (set8 (set8 wr g (k * 8) v) g (j * 8) u) = wf at E3 HN3 ⊢
          go_wp2
          go_roundw
          case rel => exact ⟨j, p + 1, rfl, by have := HJ.out; omega, by have e1 := HJ.out; have e2 := HP.out; show _ = _; omega, E3.out, HN3.out⟩
          case measure => have := HJ.out; simp [intOf]; omega
        · have hk : p = i - m := by have e1 := HP.out; have e2 := HM.out; omega
          have HK := Lib.hid hk
          have ht : ¬ (k : Int) < (i : Int) - 1 := by omega
          clear hk
          go_wp2
          go_end0
          exact ⟨rfl, _, HMG.out, by rw [← HK.out]; exact HO.out, HON.out⟩
end Go.Proofs.YtndmlldaebdnmaaDoor
