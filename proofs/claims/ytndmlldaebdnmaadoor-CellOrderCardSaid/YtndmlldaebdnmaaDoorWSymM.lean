/-
  slices.symMergeCmpFunc at cells.
-/
import Derived.Test.YtndmlldaebdnmaaDoorWSymR
import Derived.Outline
import Derived.Deep.DeepCutAuto
import Derived.Deep.CutBlock
namespace Go.Proofs.YtndmlldaebdnmaaDoor
open Go.RowKit

theorem take_ne {l : List Cell} {k : Nat} (h1 : 0 < k) (h2 : 0 < l.length) : l.take k ≠ [] := by
  intro h
  have h3 := congrArg List.length h
  rw [List.length_take, List.length_nil] at h3
  omega
theorem drop_ne {l : List Cell} {k : Nat} (h : k < l.length) : l.drop k ≠ [] := by
  intro h1
  have h3 := congrArg List.length h1
  rw [List.length_drop, List.length_nil] at h3
  omega
theorem merges_len {A B M L R X : List Cell} {n : Nat} (h1 : n = (L ++ A ++ B ++ X ++ R).length) (h2 : n = (L ++ M ++ X ++ R).length) : M.length = A.length + B.length := by
  simp only [List.length_append] at h1 h2
  omega
theorem SymK.at {A B : List Cell} {a m s0 r0 q i j : Nat} (h : SymK A B a m s0 r0 q s0 r0) (hi : i = s0) (hj : j = r0) : SymK A B a m s0 r0 q i j := by
  subst hi hj
  exact h

set_option maxHeartbeats 1000000 in
set_option maxRecDepth 20000 in
theorem symM_calls (d : Nat) (ih : ∀ (base g n cap a m b : Nat) (L A B R : List Cell) (w : World), b - a ≤ d → OwnC w base (some ⟨g, 0, none⟩) n cap (L ++ A ++ B ++ R) → a = L.length → m = a + A.length → b = m + B.length → Mounts A → Mounts B → A ≠ [] → B ≠ [] → n ≤ 1000000 →
      Calls Tryd.prog 52 #[.slice (some ⟨g, 0, none⟩) n cap, .int .i64 a, .int .i64 m, .int .i64 b, ordF] w (SymOut base g n cap L A B R w))
    (base g n cap a m b : Nat) (L A B R : List Cell) (w : World) (hd : b - a ≤ d + 1) (h : OwnC w base (some ⟨g, 0, none⟩) n cap (L ++ A ++ B ++ R)) (ha : a = L.length) (hm : m = a + A.length) (hb : b = m + B.length) (hA : Mounts A) (hB : Mounts B) (hA1 : 2 ≤ A.length) (hB1 : 2 ≤ B.length) (hn : n ≤ 1000000) :
    Calls Tryd.prog 52 #[.slice (some ⟨g, 0, none⟩) n cap, .int .i64 a, .int .i64 m, .int .i64 b, ordF] w (SymOut base g n cap L A B R w) := by
  have hnl : n = L.length + A.length + B.length + R.length := by have := h.1; simp only [List.length_append] at this; omega
  have HI := Lib.hid ih
  have HO := Lib.hid h
  have HA := Lib.hid ha
  have HM := Lib.hid hm
  have HB := Lib.hid hb
  have HMA := Lib.hid hA
  have HMB := Lib.hid hB
  have HNL := Lib.hid hnl
  have HDD := Lib.hid hd
  obtain ⟨f1, f2, f3⟩ : a + 2 ≤ m ∧ m + 2 ≤ b ∧ b ≤ n := by omega
  have t1 : ((m : Int) - (a : Int) == 1) = false := by rw [beq_eq_false_iff_ne]; omega
  have t2 : ((b : Int) - (m : Int) == 1) = false := by rw [beq_eq_false_iff_ne]; omega
  obtain ⟨mid, hmid⟩ : ∃ mid, mid = (a + b) / 2 := ⟨_, rfl⟩
  have t3 : ((a : Int) + (b : Int)) / 2 = (mid : Int) := by omega
  obtain ⟨g1, g2⟩ : a < mid ∧ mid < b := by omega
  clear ih h ha hm hb hA hB hnl hA1 hB1 hd hmid
  obtain ⟨q, hq⟩ : ∃ q, q = mid + m := ⟨_, rfl⟩
  obtain ⟨p, hp⟩ : ∃ p, q = p + 1 := ⟨q - 1, by omega⟩
  obtain ⟨s0, hs0⟩ : ∃ s0, s0 = max a (q - b) := ⟨_, rfl⟩
  obtain ⟨r0, hr0⟩ : ∃ r0, r0 = min m mid := ⟨_, rfl⟩
  have t4 : (mid : Int) + (m : Int) = (q : Int) := by omega
  have t5 : (q : Int) - 1 = (p : Int) := by omega
  have b1 : q ≤ 2000000 := by omega
  have HQ : Hid (q = mid + m ∧ q = p + 1) := ⟨hq, hp⟩
  have HS0 := Lib.hid hs0
  have HR0 := Lib.hid hr0
  obtain ⟨b2, b3, b4, b5, b6⟩ : s0 ≤ r0 ∧ a ≤ s0 ∧ r0 ≤ m ∧ r0 ≤ mid ∧ q ≤ s0 + b := by
    have e := t3
    omega
  have HSK := Lib.hid (SymK.start A B a m s0 r0 q b2)
  go_enter Tryd.func52, Tryd.ntmps52
  clear hq hp hs0 hr0
  go_upto_if 140 with fail
  go_cut [20, 21] (fun x y wx => x = .int .i64 s0 ∧ y = .int .i64 r0 ∧ wx = w)
  case first =>
    by_cases hmm : mid < m
    · have t6 : (q : Int) - (b : Int) = (s0 : Int) := by (have e1 := HS0.out; have e2 := HQ.out; have e := t3; omega)
      have T8 : Hid (mid = r0) := by (have e := HR0.out; unfold Hid; omega)
      go_wp2
      go_meet
      exact ⟨rfl, by rw [T8.out], rfl⟩
    · have T7 : Hid (a = s0) := by (have e1 := HS0.out; have e2 := HQ.out; have e := t3; unfold Hid; omega)
      have T8 : Hid (m = r0) := by (have e := HR0.out; unfold Hid; omega)
      go_wp2
      go_meet
      exact ⟨by rw [T7.out], by rw [T8.out], rfl⟩
  case rest =>
    obtain ⟨rfl, rfl, hw⟩ := hcut
    obtain rfl : w = wc := hw.symm
    go_wp2_with fail
    go_loopw [20, 21] (fun p q' wr => ∃ i j : Nat, p = .int .i64 i ∧ q' = .int .i64 j ∧ s0 ≤ i ∧ i ≤ j ∧ j ≤ r0 ∧ Hid (SymK A B a m s0 r0 q i j) ∧ Hid (OwnC wr base (some ⟨g, 0, none⟩) n cap (L ++ A ++ B ++ R)) ∧ Hid (Below w.heap.size w wr)) (fun p q _ => (intOf q).toNat - (intOf p).toNat)
    case atStart => exact ⟨s0, r0, rfl, rfl, Nat.le_refl _, b2, Nat.le_refl _, HSK.out, HO.out, Below.refl _ _⟩
    case round =>
      clear HO t1 t2 t3 t4 t5
      obtain ⟨i, j, rfl, rfl, h1, h2, h3, HS, HO, HBW⟩ := hrel
      by_cases hij : i < j
      · obtain ⟨k, hk⟩ : ∃ k, k = (i + j) / 2 := ⟨_, rfl⟩
        have hk2 : ((i : Int) + (j : Int)) / 2 = (k : Int) := by omega
        have k1 : i ≤ k := by omega
        have k2 : k < j := by omega
        obtain ⟨e, he⟩ : ∃ e, e = p - k := ⟨_, rfl⟩
        obtain ⟨z, hz, hz8⟩ := rd8z (HO.out.rd Cell.l_len) k (by omega)
        obtain ⟨y, hy, hy8⟩ := rd8z (HO.out.rd Cell.l_len) e (by have e2 := HQ.out; omega)
        have HZ : Hid (A[k - a]? = some z) := by
          have e1 := HA.out
          have e2 := HM.out
          rw [List.append_assoc, List.append_assoc, List.getElem?_append_right (by omega), List.getElem?_append_left (by omega)] at hz
          have e4 : k - L.length = k - a := by omega
          rw [e4] at hz
          exact hz
        have HY : Hid (B[q - 1 - k - m]? = some y) := by
          have e1 := HA.out
          have e2 := HM.out
          have e3 := HB.out
          have e5 := HQ.out
          rw [List.append_assoc, List.getElem?_append_right (by simp; omega), List.getElem?_append_left (by simp; omega)] at hy
          have e4 : e - (L ++ A).length = q - 1 - k - m := by simp; omega
          rw [e4] at hy
          exact hy
        obtain ⟨k0, k1', k2', k3, k4, k5, k6, k7⟩ := hz8.later
        obtain ⟨l0, l1, l2, l3, l4, l5, l6, l7⟩ := hy8.later
        have ee : IntKind.i64.wrap ((p : Int) - (k : Int)) = (e : Int) := by rw [IntKind.wrap_i64]; have e2 := HQ.out; omega
        have ee2 : (p : Int) - (k : Int) = (e : Int) := by have e2 := HQ.out; omega
        have i0 : (0 : Int) ≤ (k : Int) := by omega
        have i1 : (k : Int) < (n : Int) := by omega
        have j0 : (0 : Int) ≤ (e : Int) := by omega
        have j1 : (e : Int) < (n : Int) := by have e2 := HQ.out; omega
        clear hz hy hz8 hy8 hk he
        go_wp2_with fail
        refine wp_region_later (by kernel_rfl) (by kernel_rfl) ?_
        repeat (go_big_quiet_step ((go_at_call 25; exact calls_later (order_calls y z _))))
        refine wpQuiet_nil ?_
        intro W1 hW1
        have hBW : Below wr.heap.size wr W1 := by
          obtain ⟨X, rfl⟩ := hW1
          exact later_below wr X
        have HO1 := Lib.hid (HO.out.below hBW)
        have HBW1 := Lib.hid (HBW.out.trans (hBW.mono HBW.out.size))
        clear hW1 hBW HO HBW k0 k1' k2' k3 k4 k5 k6 k7 l0 l1 l2 l3 l4 l5 l6 l7 hk2 ee ee2
        cases hd : decide (y.order z < 0) with
        | true =>
          have HS1 := Lib.hid (HS.out.down HMA.out HMB.out k1 k2 HZ.out HY.out (of_decide_eq_true hd))
          go_wp2
          go_roundw
          case rel => exact ⟨i, k, rfl, rfl, h1, k1, by omega, HS1.out, HO1.out, HBW1.out⟩
          case measure => simp [intOf]; omega
        | false =>
          have HS1 := Lib.hid (HS.out.up HMA.out HMB.out k1 k2 HZ.out HY.out (of_decide_eq_false hd))
          go_wp2
          go_roundw
          case rel => exact ⟨k + 1, j, by go_num, rfl, by omega, by omega, h3, HS1.out, HO1.out, HBW1.out⟩
          case measure => simp [intOf]; omega
      · obtain rfl : i = j := by omega
        clear h2 hij
        obtain ⟨e, he⟩ : ∃ e, e = q - i := ⟨_, rfl⟩
        have t1 : (q : Int) - (i : Int) = (e : Int) := by have e2 := HQ.out; omega
        obtain ⟨x1, x2⟩ : e ≤ b ∧ m ≤ e := by have e2 := HQ.out; omega
        have HE := Lib.hid he
        clear he
        have hrd : ∀ (R1 R2 : List Cell), Merges (A.take (i - a)) (B.take (mid - i)) R1 → Merges (A.drop (i - a)) (B.drop (mid - i)) R2 → Merges A B (R1 ++ R2) := fun R1 R2 m1 m2 => HS.out.done HMA.out HMB.out HM.out HB.out HQ.out.1 HS0.out HR0.out rfl rfl m1 m2
        have HRD := Lib.hid hrd
        clear hrd
        have HON := Lib.hid (HBW.out.only (fun x => x = g))
        clear HBW
        go_upto_region 39 with fail
        go_cut [185] (fun x wx => ∃ t : Bool, x = .bool t ∧ Hid (t = true ↔ (i < m ∧ m < e)) ∧ wx = wr)
        case first =>
          as_aux_lemma =>
          by_cases z1 : i < m
          · by_cases z2 : m < e
            · go_wp2
              go_meet
              exact ⟨true, rfl, ⟨fun _ => ⟨z1, z2⟩, fun _ => rfl⟩, rfl⟩
            · go_wp2
              go_meet
              exact ⟨false, rfl, ⟨fun h => (by cases h), fun h => absurd h.2 z2⟩, rfl⟩
          · go_wp2
            go_meet
            exact ⟨false, rfl, ⟨fun h => (by cases h), fun h => absurd h.1 z1⟩, rfl⟩
        case rest =>
          obtain ⟨t, rfl, HT, rfl⟩ := hcut
          go_upto_if 185 with fail
          go_cut [] (fun wx => Hid (OwnC wx base (some ⟨g, 0, none⟩) n cap (L ++ A.take (i - a) ++ B.take (mid - i) ++ (A.drop (i - a) ++ B.drop (mid - i) ++ R))) ∧ Hid (Only (fun x => x = g) w wx))
          case first =>
            as_aux_lemma =>
            cases t
            case' true =>
              have Z := Lib.hid (HT.out.1 rfl)
              clear HT
              go_wp2_with fail
              have ho : OwnC wc base (some ⟨g, 0, none⟩) n cap ((L ++ A.take (i - a)) ++ A.drop (i - a) ++ B.take (mid - i) ++ (B.drop (mid - i) ++ R)) := by
                have := HO.out
                simp only [List.append_assoc] at this ⊢
                rw [← List.append_assoc (A.take (i - a)), List.take_append_drop, ← List.append_assoc (B.take (mid - i)), List.take_append_drop]
                exact this
              refine (rot_calls base g n cap i m e ordF (L ++ A.take (i - a)) (A.drop (i - a)) (B.take (mid - i)) (B.drop (mid - i) ++ R) wc ho ?y1 ?y2 ?y3 ?y4 ?y5 hn).mono ?y6
              case y1 => have := HA.out; have := HM.out; simp; omega
              case y2 => have := HA.out; have := HM.out; simp; omega
              case y3 => have := HA.out; have := HM.out; have := HB.out; have := HE.out; have := HQ.out; simp; omega
              case y4 => have := HM.out; have := Z.out; simp; omega
              case y5 => have := HB.out; have := HE.out; have := HQ.out; have := Z.out; simp; omega
              case y6 =>
                rintro e2 w2 ⟨rfl, ho2, hn2⟩
                have HO2 : Hid (OwnC w2 base (some ⟨g, 0, none⟩) n cap (L ++ A.take (i - a) ++ B.take (mid - i) ++ (A.drop (i - a) ++ B.drop (mid - i) ++ R))) := by
                  have := ho2
                  simp only [List.append_assoc] at this ⊢
                  exact Lib.hid this
                have HN2 := Lib.hid (HON.out.trans hn2)
                clear ho2 hn2 ho
                go_wp2
                go_meet
                exact ⟨HO2, HN2⟩
            case' false =>
              have z : ¬ (i < m ∧ m < e) := fun h => (by have := HT.out.2 h; cases this)
              clear HT
              have HO2 : Hid (OwnC wc base (some ⟨g, 0, none⟩) n cap (L ++ A.take (i - a) ++ B.take (mid - i) ++ (A.drop (i - a) ++ B.drop (mid - i) ++ R))) := by
                have h1 : A.drop (i - a) = [] ∨ B.take (mid - i) = [] := by
                  have e1 := HM.out; have e2 := HE.out; have e3 := HQ.out
                  by_cases z1 : i < m
                  · right
                    rw [show mid - i = 0 by omega, List.take_zero]
                  · left
                    exact List.drop_eq_nil_of_le (by omega)
                have := HO.out
                rw [← List.take_append_drop (i - a) A, ← List.take_append_drop (mid - i) B] at this
                rcases h1 with h1 | h1
                · rw [h1] at this ⊢
                  simp only [List.append_assoc, List.append_nil, List.nil_append] at this ⊢
                  exact Lib.hid this
                · rw [h1] at this ⊢
                  simp only [List.append_assoc, List.append_nil, List.nil_append] at this ⊢
                  exact Lib.hid this
              clear z
              go_wp2
              go_meet
              exact ⟨HO2, HON⟩
          case rest =>
            clear HO HON
            obtain ⟨HO, HON⟩ := hcut
            go_upto_region 41 with fail
            go_cut [199] (fun x wx => ∃ t : Bool, x = .bool t ∧ Hid (t = true ↔ (a < i ∧ i < mid)) ∧ wx = wc)
            case first =>
              as_aux_lemma =>
              by_cases z1 : a < i
              · by_cases z2 : i < mid
                · go_wp2
                  go_meet
                  exact ⟨true, rfl, ⟨fun _ => ⟨z1, z2⟩, fun _ => rfl⟩, rfl⟩
                · go_wp2
                  go_meet
                  exact ⟨false, rfl, ⟨fun h => (by cases h), fun h => absurd h.2 z2⟩, rfl⟩
              · go_wp2
                go_meet
                exact ⟨false, rfl, ⟨fun h => (by cases h), fun h => absurd h.1 z1⟩, rfl⟩
            case rest =>
              obtain ⟨t, rfl, HT, rfl⟩ := hcut
              go_upto_if 199 with fail
              go_cut [] (fun wx => ∃ M1, Hid (Merges (A.take (i - a)) (B.take (mid - i)) M1) ∧ Hid (OwnC wx base (some ⟨g, 0, none⟩) n cap ((L ++ M1) ++ A.drop (i - a) ++ B.drop (mid - i) ++ R)) ∧ Hid (Only (fun x => x = g) w wx))
              case first =>
                as_aux_lemma =>
                have e1 := HM.out
                have e2 := HE.out
                have e3 := HQ.out
                have e4 := HB.out
                have e5 := HDD.out
                have e6 := HA.out
                have hma : Mounts (A.take (i - a)) := by
                  have := HMA.out
                  rw [← List.take_append_drop (i - a) A] at this
                  exact (List.pairwise_append.1 this).1
                have hmb : Mounts (B.take (mid - i)) := by
                  have := HMB.out
                  rw [← List.take_append_drop (mid - i) B] at this
                  exact (List.pairwise_append.1 this).1
                cases t
                case' true =>
                  have Z := Lib.hid (HT.out.1 rfl)
                  have hcall := Lib.hid (HI.out base g n cap a i mid L (A.take (i - a)) (B.take (mid - i)) (A.drop (i - a) ++ B.drop (mid - i) ++ R) wc (by omega) HO.out e6 (by have := Z.out; simp; omega) (by have := Z.out; simp; omega) hma hmb (take_ne (by have := Z.out; omega) (by omega)) (take_ne (by have := Z.out; omega) (by omega)) hn)
                  clear HT e1 e2 e3 e4 e5 e6 hma hmb
                  go_wp2_with fail
                  refine hcall.out.mono ?_
                  rintro e7 w2 ⟨rfl, M1, hm1, ho2, hn2⟩
                  have HM1 := Lib.hid hm1
                  have HO2 : Hid (OwnC w2 base (some ⟨g, 0, none⟩) n cap ((L ++ M1) ++ A.drop (i - a) ++ B.drop (mid - i) ++ R)) := by
                    have := ho2
                    simp only [List.append_assoc] at this ⊢
                    exact Lib.hid this
                  have HN2 := Lib.hid (HON.out.trans hn2)
                  clear ho2 hn2 hm1 hcall
                  go_wp2
                  go_meet
                  exact ⟨M1, HM1, HO2, HN2⟩
                case' false =>
                  have z : ¬ (a < i ∧ i < mid) := fun h => (by have := HT.out.2 h; cases this)
                  have HX : Hid (∃ M1, Merges (A.take (i - a)) (B.take (mid - i)) M1 ∧ M1 = A.take (i - a) ++ B.take (mid - i)) := by
                    by_cases z1 : a < i
                    · have h0 : B.take (mid - i) = [] := by rw [show mid - i = 0 by omega, List.take_zero]
                      exact ⟨_, by rw [h0, List.append_nil]; exact Merges.nil_right hma, rfl⟩
                    · have h0 : A.take (i - a) = [] := by rw [show i - a = 0 by omega, List.take_zero]
                      exact ⟨_, by rw [h0, List.nil_append]; exact Merges.nil_left hmb, rfl⟩
                  clear HT e1 e2 e3 e4 e5 e6 hma hmb z
                  go_wp2
                  go_meet
                  obtain ⟨M1, h1, h2⟩ := HX.out
                  refine ⟨M1, h1, ?_, HON⟩
                  rw [h2]
                  have := HO.out
                  simp only [List.append_assoc] at this ⊢
                  exact Lib.hid this
              case rest =>
                as_aux_lemma =>
                clear HO HON HT
                obtain ⟨M1, HM1, HO, HON⟩ := hcut
                have e1 := HM.out
                have e2 := HE.out
                have e3 := HQ.out
                have e4 := HB.out
                have e5 := HDD.out
                have e6 := HA.out
                have hlen : M1.length = mid - a := by
                  have h1 := HO.out.1
                  have h2 := HNL.out
                  simp only [List.length_append, List.length_drop] at h1
                  omega
                have hma : Mounts (A.drop (i - a)) := by
                  have := HMA.out
                  rw [← List.take_append_drop (i - a) A] at this
                  exact (List.pairwise_append.1 this).2.1
                have hmb : Mounts (B.drop (mid - i)) := by
                  have := HMB.out
                  rw [← List.take_append_drop (mid - i) B] at this
                  exact (List.pairwise_append.1 this).2.1
                by_cases z : mid < e ∧ e < b
                · obtain ⟨z1, z2⟩ := z
                  have hcall := Lib.hid (HI.out base g n cap mid e b (L ++ M1) (A.drop (i - a)) (B.drop (mid - i)) R wc (by omega) HO.out (by simp; omega) (by simp; omega) (by simp; omega) hma hmb (drop_ne (by omega)) (drop_ne (by omega)) hn)
                  clear e1 e2 e3 e4 e5 e6 hma hmb hlen
                  go_wp2_with fail
                  refine hcall.out.mono ?_
                  rintro e7 w2 ⟨rfl, M2, hm2, ho2, hn2⟩
                  have HM2 := Lib.hid hm2
                  have HO2 : Hid (OwnC w2 base (some ⟨g, 0, none⟩) n cap (L ++ (M1 ++ M2) ++ R)) := by
                    have := ho2
                    simp only [List.append_assoc] at this ⊢
                    exact Lib.hid this
                  have HN2 := Lib.hid (HON.out.trans hn2)
                  clear ho2 hn2 hm2 hcall
                  go_wp2
                  go_end0
                  exact ⟨rfl, _, HRD.out _ _ HM1.out HM2.out, HO2.out, HN2.out⟩
                · have z' : (¬ mid < e) ∨ (mid < e ∧ ¬ e < b) := by omega
                  clear z
                  rcases z' with z1 | ⟨z1, z2⟩
                  all_goals
                    have HX : Hid (∃ M2, Merges (A.drop (i - a)) (B.drop (mid - i)) M2 ∧ M2 = A.drop (i - a) ++ B.drop (mid - i)) := by
                      by_cases z3 : e < b
                      · have h0 : A.drop (i - a) = [] := List.drop_eq_nil_of_le (by omega)
                        exact ⟨_, by rw [h0, List.nil_append]; exact Merges.nil_left hmb, rfl⟩
                      · have h0 : B.drop (mid - i) = [] := List.drop_eq_nil_of_le (by omega)
                        exact ⟨_, by rw [h0, List.append_nil]; exact Merges.nil_right hma, rfl⟩
                    have HO2 : Hid (OwnC wc base (some ⟨g, 0, none⟩) n cap (L ++ (M1 ++ (A.drop (i - a) ++ B.drop (mid - i))) ++ R)) := by
                      have := HO.out
                      simp only [List.append_assoc] at this ⊢
                      exact Lib.hid this
                    clear e1 e2 e3 e4 e5 e6 hma hmb hlen
                    go_wp2
                    go_end0
                    obtain ⟨M2, h1, h2⟩ := HX.out
                    subst h2
                    exact ⟨rfl, _, HRD.out _ _ HM1.out h1, HO2.out, HON.out⟩
end Go.Proofs.YtndmlldaebdnmaaDoor
