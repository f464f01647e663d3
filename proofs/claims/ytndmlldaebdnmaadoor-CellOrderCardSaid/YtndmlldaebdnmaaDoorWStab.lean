/-
  slices.stableCmpFunc and slices.SortStableFunc at cells.
-/
import Derived.Test.YtndmlldaebdnmaaDoorWSym
import Derived.Test.YtndmlldaebdnmaaDoorWIns
namespace Go.Proofs.YtndmlldaebdnmaaDoor
open Go.RowKit

theorem split3 (X : List Cell) (a c : Nat) : X.take a ++ (X.drop a).take c ++ X.drop (a + c) = X := by
  rw [← List.drop_drop, List.append_assoc, List.take_append_drop, List.take_append_drop]
theorem split4 (X : List Cell) (a c d : Nat) : X.take a ++ (X.drop a).take c ++ (X.drop (a + c)).take d ++ X.drop (a + c + d) = X := by
  rw [List.append_assoc, ← List.drop_drop (l := X) (i := d) (j := a + c), List.take_append_drop, split3]
theorem ChunksTo.piece {bs k : Nat} {l X0 X M : List Cell} (h : ChunksTo bs k l X0 X) (ha : k * bs ≤ l.length) (hlen : M.length = ((X.drop (k * bs)).take bs).length) (hs : Sorts (chunk bs k l) M) : ChunksTo bs (k + 1) l X0 (X.take (k * bs) ++ M ++ X.drop (k * bs + bs)) := by
  have e := split3 X (k * bs) bs
  have h1 := h
  rw [← e] at h1
  have hl := h.len
  refine ChunksTo.step h1 ?_ ?_ hlen hs
  · rw [List.length_take]; omega
  · by_cases hb : k * bs + bs ≤ l.length
    · left
      rw [List.length_take, List.length_drop]; omega
    · right
      refine ⟨by rw [List.length_take]; omega, List.drop_eq_nil_of_le (by omega)⟩
theorem ChunksTo.sorted {bs k : Nat} {l X M : List Cell} (h : ChunksTo bs k l l X) (ha : k * bs ≤ l.length) (hs : Sorts ((X.drop (k * bs)).take bs) M) (hlen : M.length = ((X.drop (k * bs)).take bs).length) : ChunksTo bs (k + 1) l l (X.take (k * bs) ++ M ++ X.drop (k * bs + bs)) := by
  refine h.piece ha hlen ?_
  rw [h.rest] at hs
  exact hs
theorem ChunksTo.merge {bs k : Nat} {l X0 X M : List Cell} (hc : Chunks bs l X0) (h : ChunksTo (2 * bs) k l X0 X) (ha : k * (2 * bs) ≤ l.length) (hm : Merges ((X.drop (k * (2 * bs))).take bs) ((X.drop (k * (2 * bs) + bs)).take bs) M) (hlen : M.length = ((X.drop (k * (2 * bs))).take bs).length + ((X.drop (k * (2 * bs) + bs)).take bs).length) : ChunksTo (2 * bs) (k + 1) l X0 (X.take (k * (2 * bs)) ++ M ++ X.drop (k * (2 * bs) + 2 * bs)) := by
  refine h.piece ha ?_ ?_
  · rw [hlen]
    simp only [List.length_take, List.length_drop]
    omega
  · rw [← List.drop_drop, h.rest, List.drop_drop] at hm
    refine hc.two (k := k) ?_
    unfold chunk
    have e1 : 2 * k * bs = k * (2 * bs) := by rw [Nat.mul_comm 2 k, Nat.mul_assoc]
    have e2 : (2 * k + 1) * bs = k * (2 * bs) + bs := by rw [Nat.succ_mul, e1]
    rw [e1, e2]
    exact hm
theorem ChunksTo.lone {bs k : Nat} {l X0 X : List Cell} (hc : Chunks bs l X0) (h : ChunksTo (2 * bs) k l X0 X) (ha : k * (2 * bs) ≤ l.length) (hb : l.length ≤ k * (2 * bs) + bs) : ChunksTo (2 * bs) (k + 1) l X0 X := by
  have h1 := h.piece ha (M := (X.drop (k * (2 * bs))).take (2 * bs)) rfl (by
    have e2 : (2 * k + 1) * bs = k * (2 * bs) + bs := by rw [Nat.succ_mul, Nat.mul_comm 2 k, Nat.mul_assoc]
    rw [h.rest]
    exact hc.lone (by rw [e2]; exact hb))
  rw [split3] at h1
  exact h1
theorem half_mounts {bs k : Nat} {l X0 X : List Cell} (hc : Chunks bs l X0) (h : ChunksTo (2 * bs) k l X0 X) : Mounts ((X.drop (k * (2 * bs))).take bs) ∧ Mounts ((X.drop (k * (2 * bs) + bs)).take bs) := by
  have e1 : 2 * k * bs = k * (2 * bs) := by rw [Nat.mul_comm 2 k, Nat.mul_assoc]
  have e2 : (2 * k + 1) * bs = k * (2 * bs) + bs := by rw [Nat.succ_mul, e1]
  have h1 := (hc.each (2 * k)).mounts
  have h2 := (hc.each (2 * k + 1)).mounts
  unfold chunk at h1 h2
  rw [e1, ← h.rest] at h1
  rw [e2, ← List.drop_drop, ← h.rest, List.drop_drop] at h2
  exact ⟨h1, h2⟩

/-- The state while blocks are sorted or made one. -/
structure StabAt (base g n cap bs k a b : Nat) (l X0 : List Cell) (w wr : World) : Prop where
  ak : a = k * bs
  ba : b = a + bs
  an : a ≤ n
  own : ∃ X, ChunksTo bs k l X0 X ∧ OwnC wr base (some ⟨g, 0, none⟩) n cap X
  only : Only (fun k => k = g) w wr
/-- .. between two rounds. -/
structure StabBs (base g n cap bs : Nat) (l : List Cell) (w wr : World) : Prop where
  own : ∃ X, Chunks bs l X ∧ OwnC wr base (some ⟨g, 0, none⟩) n cap X
  only : Only (fun k => k = g) w wr

set_option maxHeartbeats 1000000 in
set_option maxRecDepth 20000 in
theorem stab_calls (base g n cap : Nat) (l : List Cell) (w : World) (h : OwnC w base (some ⟨g, 0, none⟩) n cap l) (hn : n ≤ 1000000) :
    Calls Tryd.prog 35 #[.slice (some ⟨g, 0, none⟩) n cap, .int .i64 n, ordF] w (SortOut base g n cap [] l [] w) := by
  have HO := Lib.hid h
  have HN := Lib.hid h.1
  clear h
  go_enter Tryd.func35, Tryd.ntmps35
  go_wp2_with fail
  go_loopw [7, 8] (fun p q wr => ∃ k a b : Nat, p = .int .i64 a ∧ q = .int .i64 b ∧ a ≤ n ∧ b ≤ n + 20 ∧ a < b ∧ Hid (StabAt base g n cap 20 k a b l l w wr)) (fun p _ _ => n - (intOf p).toNat)
  case atStart => exact ⟨0, 0, 20, rfl, rfl, Nat.zero_le _, by omega, by omega, Lib.hid ⟨rfl, rfl, Nat.zero_le _, ⟨l, ChunksTo.start 20 rfl, HO.out⟩, Only.refl _ _⟩⟩
  case round =>
    clear HO
    obtain ⟨k, a, b, rfl, rfl, h1, h2, h3, HS⟩ := hrel
    obtain ⟨X, hX, ho⟩ := HS.out.own
    have HX := Lib.hid hX
    have HO := Lib.hid ho
    have HON := Lib.hid HS.out.only
    have HAK := Lib.hid HS.out.ak
    have HBA := Lib.hid HS.out.ba
    have hsp : OwnC wr base (some ⟨g, 0, none⟩) n cap (X.take a ++ (X.drop a).take 20 ++ X.drop (a + 20)) := by rw [split3]; exact ho
    have HSP := Lib.hid hsp
    have HXL := Lib.hid hX.len
    clear hX ho hsp HS
    by_cases hbn : b ≤ n
    · go_wp2_with fail
      refine (ins_calls base g n cap a b rfl rfl (X.take a) ((X.drop a).take 20) (X.drop (a + 20)) wr HSP.out ?x1 ?x2 hn).mono ?x3
      case x1 => have := HXL.out; have := HN.out; simp; omega
      case x2 => have := HXL.out; have := HN.out; have := HBA.out; simp; omega
      case x3 =>
        rintro e w2 ⟨rfl, M, hM, hl, ho2, hn2⟩
        have HR : Hid (StabAt base g n cap 20 (k + 1) b (b + 20) l l w w2) := by
          have e1 := HAK.out
          have e2 := HBA.out
          refine Lib.hid ⟨by omega, rfl, hbn, ⟨X.take a ++ M ++ X.drop (a + 20), ?_, ho2⟩, HON.out.trans hn2⟩
          subst e1
          exact HX.out.sorted (by have := HN.out; omega) hM hl
        clear hM hl ho2 hn2
        go_wp2
        go_roundw
        case rel => exact ⟨k + 1, b, b + 20, rfl, by go_num, hbn, by omega, by omega, HR⟩
        case measure => simp [intOf]; omega
    · go_wp2_with fail
      refine (ins_calls base g n cap a n rfl rfl (X.take a) ((X.drop a).take 20) (X.drop (a + 20)) wr HSP.out ?x1 ?x2 hn).mono ?x3
      case x1 => have := HXL.out; have := HN.out; simp; omega
      case x2 => have := HXL.out; have := HN.out; have := HBA.out; simp; omega
      case x3 =>
        rintro e w2 ⟨rfl, M, hM, hl, ho2, hn2⟩
        have HR : Hid (StabBs base g n cap 20 l w w2) := by
          have e1 := HAK.out
          have e2 := HBA.out
          refine Lib.hid ⟨⟨X.take a ++ M ++ X.drop (a + 20), ?_, ho2⟩, HON.out.trans hn2⟩
          have e3 := HN.out
          have h4 : l.length ≤ (k + 1) * 20 := by omega
          subst e1
          exact (HX.out.sorted (by omega) hM hl).done h4
        clear hM hl ho2 hn2 HX HO HON HAK HBA HSP HXL h1 h2 h3 hbn
        go_wp2_with fail
        go_loopw [6] (fun p wr => ∃ bs : Nat, p = .int .i64 bs ∧ 20 ≤ bs ∧ bs ≤ 2 * n + 20 ∧ Hid (StabBs base g n cap bs l w wr)) (fun p _ => n - (intOf p).toNat)
        case atStart => exact ⟨20, rfl, Nat.le_refl _, by omega, HR⟩
        case round =>
          clear HR
          obtain ⟨bs, rfl, h1, h2, HS⟩ := hrel
          by_cases hlt : bs < n
          · obtain ⟨X0, hc, ho⟩ := HS.out.own
            have HC := Lib.hid hc
            have HX0 := Lib.hid (ChunksTo.start (2 * bs) hc.len)
            have HO0 := Lib.hid ho
            have HON0 := Lib.hid HS.out.only
            clear hc ho HS
            go_wp2_with fail
            go_loopw [7, 8] (fun p q wr => ∃ k a b : Nat, p = .int .i64 a ∧ q = .int .i64 b ∧ a ≤ n ∧ b ≤ n + 2 * bs ∧ a < b ∧ Hid (StabAt base g n cap (2 * bs) k a b l X0 w wr)) (fun p _ _ => n - (intOf p).toNat)
            case atStart => exact ⟨0, 0, 2 * bs, rfl, by go_num, Nat.zero_le _, by omega, by omega, Lib.hid ⟨by omega, by omega, Nat.zero_le _, ⟨X0, HX0.out, HO0.out⟩, HON0.out⟩⟩
            case round =>
              clear HO0 HX0 HON0
              obtain ⟨k, a, b, rfl, rfl, h3, h4, h5, HS⟩ := hrel
              obtain ⟨X, hX, ho⟩ := HS.out.own
              have HX := Lib.hid hX
              have HON := Lib.hid HS.out.only
              have HAK := Lib.hid HS.out.ak
              have HBA := Lib.hid HS.out.ba
              have hsp : OwnC wr base (some ⟨g, 0, none⟩) n cap (X.take a ++ (X.drop a).take bs ++ (X.drop (a + bs)).take bs ++ X.drop (a + bs + bs)) := by rw [split4]; exact ho
              have HSP := Lib.hid hsp
              have HO := Lib.hid ho
              have HXL := Lib.hid hX.len
              have hmo := half_mounts HC.out hX
              rw [← HS.out.ak] at hmo
              have HMO := Lib.hid hmo
              clear hX ho hsp HS hmo
              by_cases hbn : b ≤ n
              · go_wp2_with fail
                refine (sym_calls base g n cap a (a + bs) b rfl ?x0 rfl (X.take a) ((X.drop a).take bs) ((X.drop (a + bs)).take bs) (X.drop (a + bs + bs)) wr HSP.out ?x1 ?x2 ?x3 HMO.out.1 HMO.out.2 ?x4 ?x5 hn).mono ?x6
                case x0 => omega
                case x1 => have := HXL.out; have := HN.out; simp; omega
                case x2 => have := HXL.out; have := HN.out; have := HBA.out; simp; omega
                case x3 => have := HXL.out; have := HN.out; have := HBA.out; simp; omega
                case x4 => exact take_ne (by omega) (by have := HXL.out; have := HN.out; have := HBA.out; simp; omega)
                case x5 => exact take_ne (by omega) (by have := HXL.out; have := HN.out; have := HBA.out; simp; omega)
                case x6 =>
                  rintro e w2 ⟨rfl, M, hM, ho2, hn2⟩
                  have HR : Hid (StabAt base g n cap (2 * bs) (k + 1) b (b + 2 * bs) l X0 w w2) := by
                    have e1 := HAK.out
                    have e2 := HBA.out
                    have e3 : M.length = ((X.drop a).take bs).length + ((X.drop (a + bs)).take bs).length := merges_len (n := n) (L := X.take a) (X := X.drop (a + bs + bs)) (R := []) (by rw [List.append_nil]; exact HSP.out.1) (by rw [List.append_nil]; exact ho2.1)
                    refine Lib.hid ⟨by rw [Nat.succ_mul]; omega, rfl, hbn, ⟨X.take a ++ M ++ X.drop (a + bs + bs), ?_, ho2⟩, HON.out.trans hn2⟩
                    subst e1
                    rw [show k * (2 * bs) + bs + bs = k * (2 * bs) + 2 * bs by omega]
                    exact HX.out.merge HC.out (by have := HN.out; omega) hM e3
                  clear hM ho2 hn2
                  go_wp2
                  go_roundw
                  case rel => exact ⟨k + 1, b, b + 2 * bs, rfl, by go_num, hbn, by omega, by omega, HR⟩
                  case measure => simp [intOf]; omega
              · by_cases hmn : a + bs < n
                · have hmz : (a : Int) + (bs : Int) < (n : Int) := by omega
                  go_wp2_with fail
                  refine (sym_calls base g n cap a (a + bs) n rfl ?x0 rfl (X.take a) ((X.drop a).take bs) ((X.drop (a + bs)).take bs) (X.drop (a + bs + bs)) wr HSP.out ?x1 ?x2 ?x3 HMO.out.1 HMO.out.2 ?x4 ?x5 hn).mono ?x6
                  case x0 => omega
                  case x1 => have := HXL.out; have := HN.out; simp; omega
                  case x2 => have := HXL.out; have := HN.out; have := HBA.out; simp; omega
                  case x3 => have := HXL.out; have := HN.out; have := HBA.out; simp; omega
                  case x4 => exact take_ne (by omega) (by have := HXL.out; have := HN.out; have := HBA.out; simp; omega)
                  case x5 => exact take_ne (by omega) (by have := HXL.out; have := HN.out; have := HBA.out; simp; omega)
                  case x6 =>
                    rintro e w2 ⟨rfl, M, hM, ho2, hn2⟩
                    have HR : Hid (StabBs base g n cap (2 * bs) l w w2) := by
                      have e1 := HAK.out
                      have e2 := HBA.out
                      have e4 := HN.out
                      have e3 : M.length = ((X.drop a).take bs).length + ((X.drop (a + bs)).take bs).length := merges_len (n := n) (L := X.take a) (X := X.drop (a + bs + bs)) (R := []) (by rw [List.append_nil]; exact HSP.out.1) (by rw [List.append_nil]; exact ho2.1)
                      refine Lib.hid ⟨⟨X.take a ++ M ++ X.drop (a + bs + bs), ?_, ho2⟩, HON.out.trans hn2⟩
                      have h6 : l.length ≤ (k + 1) * (2 * bs) := by rw [Nat.succ_mul]; omega
                      subst e1
                      rw [show k * (2 * bs) + bs + bs = k * (2 * bs) + 2 * bs by omega]
                      exact (HX.out.merge HC.out (by omega) hM e3).done h6
                    clear hM ho2 hn2
                    go_wp2
                    go_roundw
                    case rel => exact ⟨2 * bs, by rw [show ((bs : Int) * 2) = ((2 * bs : Nat) : Int) by omega], by omega, by omega, HR⟩
                    case measure => simp [intOf]; omega
                · have hmz : ¬ (a : Int) + (bs : Int) < (n : Int) := by omega
                  have HR : Hid (StabBs base g n cap (2 * bs) l w wr) := by
                    have e1 := HAK.out
                    have e2 := HBA.out
                    have e4 := HN.out
                    refine Lib.hid ⟨⟨X, ?_, HO.out⟩, HON.out⟩
                    have h6 : l.length ≤ (k + 1) * (2 * bs) := by rw [Nat.succ_mul]; omega
                    subst e1
                    exact (HX.out.lone HC.out (by omega) (by omega)).done h6
                  go_wp2
                  go_roundw
                  case rel => exact ⟨2 * bs, by rw [show ((bs : Int) * 2) = ((2 * bs : Nat) : Int) by omega], by omega, by omega, HR⟩
                  case measure => simp [intOf]; omega
          · have HR : Hid (SortOut base g n cap [] l [] w (.returned (.tuple #[])) wr) := by
              obtain ⟨X, hc, ho⟩ := HS.out.own
              exact ⟨rfl, X, hc.whole (by have := HN.out; omega), hc.len, by rw [List.append_nil, List.nil_append]; exact ho, HS.out.only⟩
            go_wp2
            go_end0
            exact HR.out
end Go.Proofs.YtndmlldaebdnmaaDoor
