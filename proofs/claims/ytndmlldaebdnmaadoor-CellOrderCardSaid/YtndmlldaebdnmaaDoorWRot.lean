/-
  slices.rotateCmpFunc at cells.
-/
import Derived.Test.YtndmlldaebdnmaaDoorWRotP
namespace Go.Proofs.YtndmlldaebdnmaaDoor
open Go.RowKit

/-- How a rotation stands: X (i cells) ends ahead of m, Y (j cells) begins there; to be reached is G. -/
structure RotAt (base g n cap m i j : Nat) (G : List Cell) (w wr : World) : Prop where
  parts : ∃ L X Y R : List Cell, i = X.length ∧ j = Y.length ∧ m = L.length + i ∧ L ++ Y ++ X ++ R = G ∧ OwnC wr base (some ⟨g, 0, none⟩) n cap (L ++ X ++ Y ++ R)
  i0 : 0 < i
  j0 : 0 < j
  im : i ≤ m
  mj : m + j ≤ n
  only : Only (fun k => k = g) w wr

theorem swapr_calls2 (base g n cap a b m : Nat) {x y z : Int} (hx : x = (a : Int)) (hy : y = (b : Int)) (hz : z = (m : Int)) (fv : Value) (xs : List Cell) (w : World) (h : OwnC w base (some ⟨g, 0, none⟩) n cap xs) (ha : a + m ≤ b) (hb : b + m ≤ n) (hn : n ≤ 1000000) :
    Calls Tryd.prog 80 #[.slice (some ⟨g, 0, none⟩) n cap, .int .i64 x, .int .i64 y, .int .i64 z, fv] w fun e w' => e = .returned (.tuple #[]) ∧ OwnC w' base (some ⟨g, 0, none⟩) n cap (swapsC xs a b m) ∧ Only (fun k => k = g) w w' := by
  subst hx hy hz
  exact swapr_calls base g n cap a b m fv xs w h ha hb hn
theorem int_sub {k l : Nat} (h : l ≤ k) : Value.int .i64 ((k : Int) - (l : Int)) = Value.int .i64 ((k - l : Nat) : Int) := by rw [show ((k : Int) - (l : Int)) = ((k - l : Nat) : Int) by omega]

set_option maxHeartbeats 600000 in
set_option maxRecDepth 20000 in
theorem rot_calls (base g n cap a m b : Nat) (fv : Value) (L X Y R : List Cell) (w : World) (h : OwnC w base (some ⟨g, 0, none⟩) n cap (L ++ X ++ Y ++ R)) (ha : a = L.length) (hm : m = L.length + X.length) (hb : b = L.length + X.length + Y.length) (hx : 0 < X.length) (hy : 0 < Y.length) (hn : n ≤ 1000000) :
    Calls Tryd.prog 71 #[.slice (some ⟨g, 0, none⟩) n cap, .int .i64 a, .int .i64 m, .int .i64 b, fv] w fun e w' => e = .returned (.tuple #[]) ∧ OwnC w' base (some ⟨g, 0, none⟩) n cap (L ++ Y ++ X ++ R) ∧ Only (fun k => k = g) w w' := by
  have hnl : n = L.length + X.length + Y.length + R.length := by have := h.1; simp only [List.length_append] at this; omega
  obtain ⟨i, hi⟩ : ∃ i, i = X.length := ⟨_, rfl⟩
  obtain ⟨j, hj⟩ : ∃ j, j = Y.length := ⟨_, rfl⟩
  obtain ⟨G, hG⟩ : ∃ G, L ++ Y ++ X ++ R = G := ⟨_, rfl⟩
  have HS : Hid (RotAt base g n cap m i j G w w) := Lib.hid ⟨⟨L, X, Y, R, hi, hj, by omega, hG, h⟩, by omega, by omega, by omega, by omega, Only.refl _ _⟩
  rw [hG]
  have d1 : wrap64 ((m : Int) - (a : Int)) = (i : Int) := by unfold wrap64; omega
  have d2 : wrap64 ((b : Int) - (m : Int)) = (j : Int) := by unfold wrap64; omega
  clear h ha hm hb hx hy hnl hi hj hG
  clear L X Y R
  go_enter Tryd.func71, Tryd.ntmps71
  go_wp2_with fail
  go_loopw [10, 11] (fun p q wr => ∃ i j : Nat, p = .int .i64 i ∧ q = .int .i64 j ∧ Hid (RotAt base g n cap m i j G w wr)) (fun p q _ => (intOf p).toNat + (intOf q).toNat)
  case atStart => exact ⟨i, j, by rw [d1], by rw [d2], HS⟩
  case round =>
    clear HS d1 d2
    obtain ⟨k, l, rfl, rfl, HR⟩ := hrel
    obtain ⟨c1, c2, c3, c4⟩ : 0 < k ∧ 0 < l ∧ k ≤ m ∧ m + l ≤ n := ⟨HR.out.i0, HR.out.j0, HR.out.im, HR.out.mj⟩
    obtain ⟨L, X, Y, R, hX, hY, hL, hG, ho⟩ := HR.out.parts
    have HG := Lib.hid hG
    have HO := Lib.hid ho
    have HL := Lib.hid hL
    have HX := Lib.hid hX
    have HY := Lib.hid hY
    have HON := Lib.hid HR.out.only
    clear hG ho hL hX hY HR
    by_cases hij : k = l
    · subst hij
      go_wp2_with fail
      refine (swapr_calls2 base g n cap (m - k) m k ?x1 rfl rfl fv _ wr HO.out ?x2 ?x3 hn).mono ?x4
      case x1 => omega
      case x2 => omega
      case x3 => omega
      case x4 =>
        rintro e w2 ⟨rfl, ho2, hn2⟩
        have ho2 := Lib.hid ho2
        have hn2 := Lib.hid hn2
        go_wp2
        go_end0
        refine ⟨rfl, ?_, HON.out.trans hn2.out⟩
        have := swaps_parts L X [] Y R (m - k) m k (by have := HL.out; omega) (by have := HL.out; have := HX.out; simp; omega) HX.out.symm HY.out.symm
        rw [List.append_nil, List.append_nil] at this
        have h2 := ho2.out
        rw [this, HG.out] at h2
        exact h2
    · by_cases hgt : l < k
      · go_wp2_with fail
        refine (swapr_calls2 base g n cap (m - k) m l ?x1 rfl rfl fv _ wr HO.out ?x2 ?x3 hn).mono ?x4
        case x1 => omega
        case x2 => omega
        case x3 => omega
        case x4 =>
          rintro e w2 ⟨rfl, ho2, hn2⟩
          have ho2 := Lib.hid ho2
          have hn2 := Lib.hid hn2
          go_wp2
          go_roundw
          case rel =>
            refine ⟨k - l, l, int_sub (by omega), rfl, Lib.hid ⟨⟨L ++ Y, X.drop l, X.take l, R, by have := HX.out; simp; omega, by have := HX.out; simp; omega, by have := HL.out; have := HX.out; have := HY.out; simp; omega, ?_, ?_⟩, by omega, c2, by omega, c4, HON.out.trans hn2.out⟩⟩
            · rw [← HG.out]
              simp
            · have := swaps_parts L (X.take l) (X.drop l) Y R (m - k) m l (by have := HL.out; omega) (by have := HL.out; have := HX.out; simp; omega) (by have := HX.out; simp; omega) HY.out.symm
              rw [List.append_assoc L, List.take_append_drop] at this
              have h2 := ho2.out
              rw [this] at h2
              exact h2
          case measure => simp [intOf]; omega
      · go_wp2_with fail
        refine (swapr_calls2 base g n cap (m - k) (m + l - k) k ?x1 ?x5 rfl fv _ wr HO.out ?x2 ?x3 hn).mono ?x4
        case x1 => omega
        case x5 => omega
        case x2 => omega
        case x3 => omega
        case x4 =>
          rintro e w2 ⟨rfl, ho2, hn2⟩
          have ho2 := Lib.hid ho2
          have hn2 := Lib.hid hn2
          go_wp2
          go_roundw
          case rel =>
            refine ⟨k, l - k, rfl, int_sub (by omega), Lib.hid ⟨⟨L, Y.drop (l - k), Y.take (l - k), X ++ R, by have := HY.out; simp; omega, by have := HY.out; simp; omega, HL.out, ?_, ?_⟩, c1, by omega, c3, by omega, HON.out.trans hn2.out⟩⟩
            · rw [← HG.out]
              simp
            · have := swaps_parts L X (Y.take (l - k)) (Y.drop (l - k)) R (m - k) (m + l - k) k (by have := HL.out; omega) (by have := HL.out; have := HX.out; have := HY.out; simp; omega) HX.out.symm (by have := HY.out; simp; omega)
              rw [List.append_assoc (L ++ X), List.take_append_drop] at this
              have h2 := ho2.out
              rw [this] at h2
              rw [List.append_assoc _ X R] at h2
              exact h2
          case measure => simp [intOf]; omega
end Go.Proofs.YtndmlldaebdnmaaDoor
