/-
  slices.swapRangeCmpFunc at cells.
-/
import Derived.Test.YtndmlldaebdnmaaDoorWSeen
namespace Go.Proofs.YtndmlldaebdnmaaDoor
open Go.RowKit

/-- Two elements in each other's stead. -/
def swapC (xs : List Cell) (i j : Nat) : List Cell := (xs.set i (xs.getD j nilC)).set j (xs.getD i nilC)
theorem swapC_len (xs : List Cell) (i j : Nat) : (swapC xs i j).length = xs.length := by simp [swapC]
/-- m elements from a on, and m from b on, in each other's stead: the first k of them. -/
def swapsC (xs : List Cell) (a b : Nat) : Nat → List Cell
  | 0 => xs
  | k + 1 => swapC (swapsC xs a b k) (a + k) (b + k)
theorem swapsC_len (xs : List Cell) (a b : Nat) : ∀ k, (swapsC xs a b k).length = xs.length
  | 0 => rfl
  | k + 1 => by rw [swapsC, swapC_len, swapsC_len xs a b k]

theorem flat_set {α : Type} {enc : α → List Value} {sz : Nat} (hsz : ∀ x, (enc x).length = sz) (x y : α) (j : Nat) (v : Value) (hj : j < sz) (hx : enc x = (enc y).set j v) : ∀ (xs : List α) (i : Nat), xs[i]? = some y → (xs.flatMap enc).set (i * sz + j) v = (xs.set i x).flatMap enc
  | [], i, h => by simp at h
  | z :: xs, 0, h => by
    simp at h; subst h
    rw [List.set_cons_zero, List.flatMap_cons, List.flatMap_cons, Nat.zero_mul, Nat.zero_add, List.set_append_left _ _ (by rw [hsz]; exact hj), hx]
  | z :: xs, i + 1, h => by
    rw [List.set_cons_succ, List.flatMap_cons, List.flatMap_cons, List.set_append_right _ _ (by rw [hsz, Nat.succ_mul]; omega), hsz]
    have : (i + 1) * sz + j - sz = i * sz + j := by rw [Nat.succ_mul]; omega
    rw [this, flat_set hsz x y j v hj hx xs i (by simpa using h)]
theorem own_set {α : Type} {enc : α → List Value} {sz : Nat} {E : TypeId} {w : World} {base g n cap : Nat} {xs : List α} (hsz : ∀ x, (enc x).length = sz) (h : Own E sz enc w base (some ⟨g, 0, none⟩) n cap xs) (i j : Nat) (x y : α) (v : Value) (hi : xs[i]? = some y) (hj : j < sz) (hx : enc x = (enc y).set j v) :
    Own E sz enc (w.setCell ⟨g, i * sz + j, none⟩ v) base (some ⟨g, 0, none⟩) n cap (xs.set i x) ∧ Only (fun k => (some ⟨g, 0, none⟩ : Option Addr) = some ⟨k, 0, none⟩) w (w.setCell ⟨g, i * sz + j, none⟩ v) := by
  have := h.2.stored (i * sz + j) v
  rw [flat_set hsz x y j v hj hx xs i hi] at this
  refine ⟨⟨by rw [List.length_set]; exact h.1, this.1⟩, (grownBy_only this.2).mono fun k _ hk => by injection hk with hk; rw [hk]⟩
/-- Eight boxes of a row are laid anew: an element is. -/
theorem own_set8 {w : World} {base g n cap : Nat} {xs : List Cell} (h : OwnC w base (some ⟨g, 0, none⟩) n cap xs) (i : Nat) (x y : Cell) (hi : xs[i]? = some y) : OwnC (set8 w g (i * 8) x) base (some ⟨g, 0, none⟩) n cap (xs.set i x) := by
  have hlt := (List.getElem?_eq_some_iff.1 hi).1
  have h1 := (own_set Cell.l_len h i 0 { y with row := x.row } y (.string x.row) hi (by omega) rfl).1
  have h2 := (own_set Cell.l_len h1 i 1 { y with row := x.row, fam := x.fam } { y with row := x.row } (.string x.fam) (by simp [hlt]) (by omega) rfl).1
  have h3 := (own_set Cell.l_len h2 i 2 { y with row := x.row, fam := x.fam, qual := x.qual } { y with row := x.row, fam := x.fam } (.string x.qual) (by simp [hlt]) (by omega) rfl).1
  have h4 := (own_set Cell.l_len h3 i 3 { y with row := x.row, fam := x.fam, qual := x.qual, time := x.time } { y with row := x.row, fam := x.fam, qual := x.qual } (.int .i64 x.time) (by simp [hlt]) (by omega) rfl).1
  have h5 := (own_set Cell.l_len h4 i 4 { y with row := x.row, fam := x.fam, qual := x.qual, time := x.time, kind := x.kind } { y with row := x.row, fam := x.fam, qual := x.qual, time := x.time } (.int .i64 x.kind) (by simp [hlt]) (by omega) rfl).1
  have h6 := (own_set Cell.l_len h5 i 5 { y with row := x.row, fam := x.fam, qual := x.qual, time := x.time, kind := x.kind, vk := x.vk } { y with row := x.row, fam := x.fam, qual := x.qual, time := x.time, kind := x.kind } (.int .i64 x.vk) (by simp [hlt]) (by omega) rfl).1
  have h7 := (own_set Cell.l_len h6 i 6 { y with row := x.row, fam := x.fam, qual := x.qual, time := x.time, kind := x.kind, vk := x.vk, vn := x.vn } { y with row := x.row, fam := x.fam, qual := x.qual, time := x.time, kind := x.kind, vk := x.vk } (.int .i64 x.vn) (by simp [hlt]) (by omega) rfl).1
  have h8 := (own_set Cell.l_len h7 i 7 x { y with row := x.row, fam := x.fam, qual := x.qual, time := x.time, kind := x.kind, vk := x.vk, vn := x.vn } (.string x.vs) (by simp [hlt]) (by omega) rfl).1
  simp only [List.set_set, Nat.add_zero] at h8
  exact h8

set_option maxHeartbeats 2000000 in
set_option maxRecDepth 20000 in
theorem swapr_calls (base g n cap a b m : Nat) (fv : Value) (xs : List Cell) (w : World) (h : OwnC w base (some ⟨g, 0, none⟩) n cap xs) (ha : a + m ≤ b) (hb : b + m ≤ n) (hn : n ≤ 1000000) :
    Calls Tryd.prog 80 #[.slice (some ⟨g, 0, none⟩) n cap, .int .i64 a, .int .i64 b, .int .i64 m, fv] w fun e w' => e = .returned (.tuple #[]) ∧ OwnC w' base (some ⟨g, 0, none⟩) n cap (swapsC xs a b m) ∧ Only (fun k => k = g) w w' := by
  have HO := Lib.hid h
  clear h
  go_enter Tryd.func80, Tryd.ntmps80
  go_wp2_with fail
  go_loopw [10] (fun i wr => ∃ k : Nat, k ≤ m ∧ i = .int .i64 k ∧ Hid (OwnC wr base (some ⟨g, 0, none⟩) n cap (swapsC xs a b k)) ∧ Hid (Only (fun x => x = g) w wr)) (fun i _ => m - (intOf i).toNat)
  case atStart => exact ⟨0, Nat.zero_le _, rfl, HO.out, Only.refl _ _⟩
  case round =>
    obtain ⟨k, hk, rfl, HOW, HON⟩ := hrel
    clear HO
    by_cases hlt : k < m
    · obtain ⟨i, hi⟩ : ∃ i, i = a + k := ⟨_, rfl⟩
      obtain ⟨j, hj⟩ : ∃ j, j = b + k := ⟨_, rfl⟩
      obtain ⟨x, hx, hx8⟩ := rd8z (HOW.out.rd Cell.l_len) i (by omega)
      obtain ⟨y, hy, hy8⟩ := rd8z (HOW.out.rd Cell.l_len) j (by omega)
      obtain ⟨k0, k1, k2, k3, k4, k5, k6, k7⟩ := hx8.get
      obtain ⟨l0, l1, l2, l3, l4, l5, l6, l7⟩ := hy8.get
      have hfz : ∀ q, wr.frozen? ⟨g, q, none⟩ = false := HOW.out.2.frozenAt
      have ei : wrap64 ((a : Int) + (k : Int)) = (i : Int) := by unfold wrap64; omega
      have ej : wrap64 ((b : Int) + (k : Int)) = (j : Int) := by unfold wrap64; omega
      have ei2 : (a : Int) + (k : Int) = (i : Int) := by omega
      have ej2 : (b : Int) + (k : Int) = (j : Int) := by omega
      have i0 : (0 : Int) ≤ (i : Int) := by omega
      have i1 : (i : Int) < (n : Int) := by omega
      have j0 : (0 : Int) ≤ (j : Int) := by omega
      have j1 : (j : Int) < (n : Int) := by omega
      have hij : ¬ i = j := by omega
      have HIJ := Lib.hid hij
      have HXX := Lib.hid hx
      have HYY := Lib.hid hy
      have HI := Lib.hid hi
      have HJ := Lib.hid hj
      have HAB := Lib.hid ha
      have HBN := Lib.hid hb
      clear hx hy hx8 hy8 hi hj ha hb
      go_wp2
      go_region
      have E1 := own_set8 HOW.out i y x HXX.out
      have E2 := own_set8 E1 j x y (by rw [List.getElem?_set, if_neg HIJ.out]; exact HYY.out)
      have hs : ((swapsC xs a b k).set i y).set j x = swapsC xs a b (k + 1) := by
        rw [swapsC, swapC, ← HI.out, ← HJ.out, List.getD_eq_getElem?_getD, List.getD_eq_getElem?_getD, HXX.out, HYY.out]
        rfl
      rw [hs] at E2
      have E3 : Hid (OwnC (World.drew (set8 (set8 wr g (i * 8) y) g (j * 8) x)) base (some ⟨g, 0, none⟩) n cap (swapsC xs a b (k + 1))) := Lib.hid (E2.below (below_drew1 _))
      have HN3 : Hid (Only (fun x => x = g) w (World.drew (set8 (set8 wr g (i * 8) y) g (j * 8) x))) := Lib.hid ((HON.out.trans ((set8_only wr g (i * 8) y).trans (set8_only _ g (j * 8) x))).trans ((below_drew1 _).only _))
      clear E1 E2 hs HOW HON k0 k1 k2 k3 k4 k5 k6 k7 l0 l1 l2 l3 l4 l5 l6 l7 hfz
      generalize World.drew (set8 (set8 wr g (i * 8) y) g (j * 8) x) = wf at E3 HN3 ⊢
      go_wp2
      go_roundw
      case rel =>
        exact ⟨k + 1, by omega, by go_num, E3.out, HN3.out⟩
      case measure => simp [intOf]; omega
    · obtain rfl : k = m := by omega
      go_wp2
      go_end0
      exact ⟨rfl, HOW.out, HON.out⟩
end Go.Proofs.YtndmlldaebdnmaaDoor
