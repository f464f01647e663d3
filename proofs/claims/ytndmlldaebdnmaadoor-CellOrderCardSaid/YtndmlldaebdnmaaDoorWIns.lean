/-
  slices.insertionSortCmpFunc at cells.
-/
import Derived.Test.YtndmlldaebdnmaaDoorWSymL
namespace Go.Proofs.YtndmlldaebdnmaaDoor
open Go.RowKit

/-- What sorting a part leaves. -/
def SortOut (base g n cap : Nat) (L A R : List Cell) (w : World) (e : Ending) (w' : World) : Prop := e = .returned (.tuple #[]) ∧ ∃ M, Sorts A M ∧ M.length = A.length ∧ OwnC w' base (some ⟨g, 0, none⟩) n cap (L ++ M ++ R) ∧ Only (fun k => k = g) w w'
/-- So much of the part is sorted. -/
structure InsAt (base g n cap a i : Nat) (L A R : List Cell) (w wr : World) : Prop where
  own : ∃ M, Sorts (A.take (i - a)) M ∧ M.length = i - a ∧ OwnC wr base (some ⟨g, 0, none⟩) n cap (L ++ M ++ A.drop (i - a) ++ R)
  only : Only (fun k => k = g) w wr

set_option maxHeartbeats 1000000 in
set_option maxRecDepth 20000 in
theorem ins_calls (base g n cap a b : Nat) {x0 y0 : Int} (hx0 : x0 = (a : Int)) (hy0 : y0 = (b : Int)) (L A R : List Cell) (w : World) (h : OwnC w base (some ⟨g, 0, none⟩) n cap (L ++ A ++ R)) (ha : a = L.length) (hb : b = a + A.length) (hn : n ≤ 1000000) :
    Calls Tryd.prog 51 #[.slice (some ⟨g, 0, none⟩) n cap, .int .i64 x0, .int .i64 y0, ordF] w (SortOut base g n cap L A R w) := by
  subst hx0 hy0
  have hnl : n = L.length + A.length + R.length := by have := h.1; simp only [List.length_append] at this; omega
  by_cases hA0 : A = []
  · subst hA0
    have HO := Lib.hid h
    have f0 : b < a + 1 := by simp at hb; omega
    have f1 : ¬ (a : Int) + 1 < (b : Int) := by omega
    have f2 : a ≤ 1000000 := by omega
    clear h hnl ha hb
    go_enter Tryd.func51, Tryd.ntmps51
    go_wp2_with fail
    refine wp_loop_rounds 1 ?_; rw [rounds_succ]
    go_wp2
    go_end0
    exact ⟨rfl, [], Sorts.nil, rfl, HO.out, Only.refl _ _⟩
  have HO := Lib.hid h
  have HA := Lib.hid ha
  have HB := Lib.hid hb
  have HNL := Lib.hid hnl
  obtain ⟨f1, f2⟩ : a < b ∧ b ≤ n := by have := List.length_pos_iff.2 hA0; omega
  clear h ha hb hnl hA0
  go_enter Tryd.func51, Tryd.ntmps51
  go_wp2_with fail
  go_loopw [8] (fun p wr => ∃ i : Nat, p = .int .i64 i ∧ a + 1 ≤ i ∧ i ≤ b ∧ Hid (InsAt base g n cap a i L A R w wr)) (fun p _ => b - (intOf p).toNat)
  case atStart =>
    refine ⟨a + 1, by go_num, Nat.le_refl _, f1, Lib.hid ⟨?_, Only.refl _ _⟩⟩
    have e : a + 1 - a = 1 := by omega
    rw [e]
    obtain ⟨x, l, rfl⟩ := List.exists_cons_of_length_pos (l := A) (by have := HB.out; omega)
    exact ⟨[x], Sorts.one x, rfl, by have := HO.out; simpa using this⟩
  case round =>
    clear HO
    obtain ⟨i, rfl, h1, h2, HI⟩ := hrel
    by_cases hlt : i < b
    · obtain ⟨M, hM, hl, ho⟩ := HI.out.own
      have HO := Lib.hid ho
      have HM := Lib.hid hM
      have HL := Lib.hid hl
      have HON := Lib.hid HI.out.only
      obtain ⟨x, hx⟩ : ∃ x, A[i - a]? = some x := get_some (by have := HB.out; omega)
      have hdr : A.drop (i - a) = x :: A.drop (i + 1 - a) := by
        have h3 := get_lt hx
        rw [List.drop_eq_getElem_cons h3]
        rw [List.getElem?_eq_getElem h3] at hx
        rw [Option.some.inj hx, show i - a + 1 = i + 1 - a by omega]
      have htk : A.take (i + 1 - a) = A.take (i - a) ++ [x] := by
        rw [show i + 1 - a = i - a + 1 by omega, List.take_add_one, hx]
        rfl
      have HDR := Lib.hid hdr
      have HTK := Lib.hid htk
      clear hM hl ho HI hx hdr htk
      go_wp2_with fail
      go_loopw [9] (fun q wr2 => ∃ j p : Nat, q = .int .i64 j ∧ a ≤ j ∧ j ≤ i ∧ Hid (j = a + p) ∧ Hid (Ins M x p) ∧ Hid (OwnC wr2 base (some ⟨g, 0, none⟩) n cap (L ++ (M.take p ++ x :: M.drop p) ++ (A.drop (i + 1 - a) ++ R))) ∧ Hid (Only (fun k => k = g) w wr2)) (fun q _ => (intOf q).toNat)
      case atStart =>
        refine ⟨i, i - a, rfl, by omega, Nat.le_refl _, (show _ = _ by omega), ?_, ?_, HON.out⟩
        · have := Ins.start M x
          rw [HL.out] at this
          exact Lib.hid this
        · have := HO.out
          rw [HDR.out] at this
          rw [← HL.out, List.take_of_length_le (Nat.le_refl _), List.drop_eq_nil_of_le (Nat.le_refl _)]
          simp only [List.append_assoc, List.cons_append, List.nil_append] at this ⊢
          exact Lib.hid this
      case round =>
        clear HO HON
        obtain ⟨j, p, rfl, h3, h4, HP, HINS, HO, HON⟩ := hrel
        have stop : (p = 0 ∨ ∃ z, M[p - 1]? = some z ∧ ¬ x.order z < 0) → ∀ W1, Below wr.heap.size wr W1 → InsAt base g n cap a (i + 1) L A R w W1 := fun hs W1 hW => by
          refine ⟨⟨M.take p ++ x :: M.drop p, ?_, ?_, ?_⟩, HON.out.trans (hW.only _)⟩
          · rw [HTK.out]
            exact HINS.out.done HM.out hs
          · have := HL.out
            have := HINS.out.le
            simp
            omega
          · have := HO.out.below hW
            simp only [List.append_assoc] at this ⊢
            exact this
        have ST := Lib.hid stop
        clear stop
        by_cases hja : a < j
        · obtain ⟨p, rfl⟩ : ∃ p', p = p' + 1 := ⟨p - 1, by have := HP.out; omega⟩
          obtain ⟨k, hk⟩ : ∃ k, j = k + 1 := ⟨j - 1, by omega⟩
          have HK := Lib.hid hk
          have hpl : p < M.length := by have := HL.out; have := HP.out; omega
          obtain ⟨z, hz⟩ := get_some hpl
          have HZ := Lib.hid hz
          obtain ⟨u, hu, hu8⟩ := rd8z (HO.out.rd Cell.l_len) j (by omega)
          obtain ⟨v, hv, hv8⟩ := rd8z (HO.out.rd Cell.l_len) k (by omega)
          have hux : u = x := by
            have e1 := HA.out; have e2 := HP.out
            have e4 : j - L.length - (M.take (p + 1)).length = 0 := by simp; omega
            rw [List.append_assoc, List.getElem?_append_right (by omega), List.append_assoc, List.getElem?_append_right (by simp; omega), e4] at hu
            exact (Option.some.inj hu).symm
          have hvz : v = z := by
            have e1 := HA.out; have e2 := HP.out; have e3 := HK.out
            have e4 : k - L.length = p := by omega
            rw [List.append_assoc, List.getElem?_append_right (by omega), List.append_assoc, List.getElem?_append_left (by simp; omega), e4, List.getElem?_take, if_pos (by omega), hz] at hv
            exact (Option.some.inj hv).symm
          subst hux hvz
          have HUU := Lib.hid hu
          have HVV := Lib.hid hv
          have HPL := Lib.hid hpl
          obtain ⟨k0, k1, k2, k3, k4, k5, k6, k7⟩ := hu8.later
          obtain ⟨l0, l1, l2, l3, l4, l5, l6, l7⟩ := hv8.later
          have HU8 := Lib.hid hu8
          have HV8 := Lib.hid hv8
          have ee : IntKind.i64.wrap ((j : Int) - 1) = (k : Int) := by rw [IntKind.wrap_i64]; omega
          have ee2 : (j : Int) - 1 = (k : Int) := by omega
          have i0 : (0 : Int) ≤ (k : Int) := by omega
          have i1 : (k : Int) < (n : Int) := by omega
          have j0 : (0 : Int) ≤ (j : Int) := by omega
          have j1 : (j : Int) < (n : Int) := by omega
          have jz : (a : Int) < (j : Int) := by omega
          clear hz hu hv hu8 hv8 hk hpl
          go_wp2_with fail
          refine wp_region_later (by kernel_rfl) (by kernel_rfl) ?_
          repeat (go_big_quiet_step ((go_at_call 25; exact calls_later (order_calls u v _))))
          refine wpQuiet_nil ?_
          intro W1 hW1
          have hBW : Below wr.heap.size wr W1 := by
            obtain ⟨X, rfl⟩ := hW1
            exact later_below wr X
          have HBW := Lib.hid hBW
          clear hW1 hBW k0 k1 k2 k3 k4 k5 k6 k7 l0 l1 l2 l3 l4 l5 l6 l7 ee
          cases hd : decide (u.order v < 0) with
          | false =>
            have HI2 := Lib.hid (ST.out (.inr ⟨v, HZ.out, by have := of_decide_eq_false hd; omega⟩) W1 HBW.out)
            clear ee2
            go_wp2
            go_roundw
            case rel => exact ⟨i + 1, by go_num, by omega, by omega, HI2.out⟩
            case measure => simp [intOf]; omega
          | true =>
            have HINS2 := Lib.hid (HINS.out.step HM.out.mounts HZ.out (of_decide_eq_true hd))
            have HO1 := Lib.hid (HO.out.below HBW.out)
            have HON1 := Lib.hid (HON.out.trans (HBW.out.only _))
            obtain ⟨k0, k1, k2, k3, k4, k5, k6, k7⟩ := (HU8.out.below HBW.out).get
            obtain ⟨l0, l1, l2, l3, l4, l5, l6, l7⟩ := (HV8.out.below HBW.out).get
            have hfz : ∀ q, W1.frozen? ⟨g, q, none⟩ = false := HO1.out.2.frozenAt
            have ej : wrap64 ((j : Int) - 1) = (k : Int) := by unfold wrap64; omega
            have hij : ¬ j = k := by have := HK.out; omega
            have HIJ := Lib.hid hij
            clear HO HON
            go_wp2
            go_region
            have E1 := own_set8 HO1.out j v u HUU.out
            have E2 := own_set8 E1 k u v (by rw [List.getElem?_set, if_neg HIJ.out]; exact HVV.out)
            have hs : ((L ++ (M.take (p + 1) ++ u :: M.drop (p + 1)) ++ (A.drop (i + 1 - a) ++ R)).set j v).set k u = L ++ (M.take p ++ u :: M.drop p) ++ (A.drop (i + 1 - a) ++ R) := by
              rw [← swap_left L M (A.drop (i + 1 - a) ++ R) u p k (by rw [← HA.out]; have e1 := HP.out; have e2 := HK.out; omega) HPL.out, swapC, ← HK.out, List.getD_eq_getElem?_getD, List.getD_eq_getElem?_getD, HUU.out, HVV.out]
              rfl
            rw [hs] at E2
            have E3 : Hid (OwnC (World.drew (set8 (set8 W1 g (j * 8) v) g (k * 8) u)) base (some ⟨g, 0, none⟩) n cap (L ++ (M.take p ++ u :: M.drop p) ++ (A.drop (i + 1 - a) ++ R))) := Lib.hid (E2.below (below_drew1 _))
            have HN3 : Hid (Only (fun x => x = g) w (World.drew (set8 (set8 W1 g (j * 8) v) g (k * 8) u))) := Lib.hid ((HON1.out.trans ((set8_only W1 g (j * 8) v).trans (set8_only _ g (k * 8) u))).trans ((below_drew1 _).only _))
            clear E1 E2 hs HO1 HON1 k0 k1 k2 k3 k4 k5 k6 k7 l0 l1 l2 l3 l4 l5 l6 l7 hfz
            generalize World.drew (set8 (set8 W1 g (j * 8) v) g (k * 8) u) = wf at E3 HN3 ⊢
            go_wp2
            go_roundw
            case rel => exact ⟨k, p, rfl, by have := HK.out; omega, by have := HK.out; omega, (by have e1 := HK.out; have e2 := HP.out; show _ = _; omega), HINS2, E3.out, HN3.out⟩
            case measure => have := HK.out; simp [intOf]; omega
        · have HI2 : Hid (∀ q, InsAt base g n cap a (i + 1) L A R w (wr.drewN q)) := fun q => ST.out (.inl (by have := HP.out; omega)) _ (drewN_below wr q)
          have hdec : decide ((a : Int) < (j : Int)) = false := decide_eq_false (by omega)
          go_wp2_with fail
          go_quiet (fail)
          go_wp2
          go_roundw
          case rel => exact ⟨i + 1, by go_num, by omega, by omega, HI2.out _⟩
          case measure => simp [intOf]; omega
    · obtain rfl : i = b := by omega
      have HR : Hid (SortOut base g n cap L A R w (.returned (.tuple #[])) wr) := by
        obtain ⟨M, hM, hl, ho⟩ := HI.out.own
        have e : i - a = A.length := by have := HB.out; omega
        rw [e, List.take_of_length_le (Nat.le_refl _)] at hM
        rw [e, List.drop_eq_nil_of_le (Nat.le_refl _), List.append_nil] at ho
        exact ⟨rfl, M, hM, by omega, ho, HI.out.only⟩
      go_wp2
      go_end0
      exact HR.out
end Go.Proofs.YtndmlldaebdnmaaDoor
