/-
  val.Decode.
-/
import Derived.Test.YtonghiaocpenaaaGreatDoorKTaken
namespace Go.Proofs.YtonghiaocpenaaaGreatDoor
open Go.RowKit

/-- The value of bytes. -/
def valV : List Int → Option (Int × Int × ByteArray)
  | [] => none
  | k :: r => (takenV k r).map fun p => (k, p.1, p.2)
def VDecOut (xs : List Int) (w : World) (e : Ending) (w' : World) : Prop :=
  Below w.heap.size w w' ∧ ((∃ k n s, valV xs = some (k, n, s) ∧ e = .returned (.tuple #[.agg #[.int .i64 k, .int .i64 n, .string s], .bool true])) ∨ (valV xs = none ∧ e = .returned (.tuple #[.agg #[.int .i64 0, .int .i64 0, .string ⟨#[]⟩], .bool false])))

theorem set3_cells {W : World} {q : Nat} {a b c x y z : Value} (h0 : W.cell? ⟨q, 0, none⟩ = some a) (h1 : W.cell? ⟨q, 1, none⟩ = some b) (h2 : W.cell? ⟨q, 2, none⟩ = some c) :
    ((((W.setCell ⟨q, 0, none⟩ x).setCell ⟨q, 1, none⟩ y).setCell ⟨q, 2, none⟩ z).cell? ⟨q, 0, none⟩ = some x ∧ (((W.setCell ⟨q, 0, none⟩ x).setCell ⟨q, 1, none⟩ y).setCell ⟨q, 2, none⟩ z).cell? ⟨q, 1, none⟩ = some y) ∧ (((W.setCell ⟨q, 0, none⟩ x).setCell ⟨q, 1, none⟩ y).setCell ⟨q, 2, none⟩ z).cell? ⟨q, 2, none⟩ = some z := by
  have e1 : (W.setCell ⟨q, 0, none⟩ x).cell? ⟨q, 1, none⟩ = some b := by rw [World.cell?_setCell_other _ _ _ _ (by simp)]; exact h1
  have e2 : ((W.setCell ⟨q, 0, none⟩ x).setCell ⟨q, 1, none⟩ y).cell? ⟨q, 2, none⟩ = some c := by
    rw [World.cell?_setCell_other _ _ _ _ (by simp), World.cell?_setCell_other _ _ _ _ (by simp)]; exact h2
  refine ⟨⟨?_, ?_⟩, World.cell?_setCell_same _ _ _ e2⟩
  · rw [World.cell?_setCell_other _ _ _ _ (by simp), World.cell?_setCell_other _ _ _ _ (by simp)]
    exact World.cell?_setCell_same _ _ _ h0
  · rw [World.cell?_setCell_other _ _ _ _ (by simp)]
    exact World.cell?_setCell_same _ _ _ e1

theorem set3_alloc {W : World} {q : Nat} {a b c : Value} (x y z : Value) (o : Obj) (h0 : W.cell? ⟨q, 0, none⟩ = some a) (h1 : W.cell? ⟨q, 1, none⟩ = some b) (h2 : W.cell? ⟨q, 2, none⟩ = some c) :
    (((((W.setCell ⟨q, 0, none⟩ x).setCell ⟨q, 1, none⟩ y).setCell ⟨q, 2, none⟩ z).alloc o).cell? ⟨q, 0, none⟩ = some x ∧ ((((W.setCell ⟨q, 0, none⟩ x).setCell ⟨q, 1, none⟩ y).setCell ⟨q, 2, none⟩ z).alloc o).cell? ⟨q, 1, none⟩ = some y) ∧ ((((W.setCell ⟨q, 0, none⟩ x).setCell ⟨q, 1, none⟩ y).setCell ⟨q, 2, none⟩ z).alloc o).cell? ⟨q, 2, none⟩ = some z := by
  obtain ⟨⟨e0, e1⟩, e2⟩ := set3_cells (x := x) (y := y) (z := z) h0 h1 h2
  have hb := (Below.refl (((W.setCell ⟨q, 0, none⟩ x).setCell ⟨q, 1, none⟩ y).setCell ⟨q, 2, none⟩ z).heap.size (((W.setCell ⟨q, 0, none⟩ x).setCell ⟨q, 1, none⟩ y).setCell ⟨q, 2, none⟩ z)).alloc (Nat.le_refl _) o
  exact ⟨⟨below_cell hb (Nat.le_refl _) e0, below_cell hb (Nat.le_refl _) e1⟩, below_cell hb (Nat.le_refl _) e2⟩

set_option maxHeartbeats 4000000 in
set_option maxRecDepth 100000 in
theorem vdec_calls (b off n cap : Nat) (xs : List Int) (w : World) (hx : RdB w (some ⟨b, off, none⟩) n xs) (hbl : b < w.heap.size) (hb : Bytes xs) (hn : n ≤ 1000000) (hcap : n ≤ cap) (hcm : cap ≤ maxLen) (hT : Lib.Utf8Tabs 0 1 w) :
    Calls Tryz.prog 65 #[.slice (some ⟨b, off, none⟩) n cap] w (VDecOut xs w) := by
  cases xs with
  | nil =>
    obtain rfl : n = 0 := hx.len
    have HB := Lib.hid ((Below.refl w.heap.size w).alloc (Nat.le_refl _) (.cells #[.int .i64 0, .int .i64 0, .string ⟨#[]⟩] 23))
    clear hx hb hT
    go_enter Tryz.func65, Tryz.ntmps65
    go_wp2
    refine bodyPost_ret (by simp [results, Tryz.results65, go_sem]; try rfl) rfl ?_
    exact ⟨HB.out, .inr ⟨rfl, rfl⟩⟩
  | cons k r =>
    have hlen := hx.len
    have hn1 : 1 ≤ n := by rw [hlen]; simp
    obtain ⟨hB, cb⟩ := one_box w #[.int .i64 0, .int .i64 0, .string ⟨#[]⟩] 23
    have hcell0 : (w.alloc (.cells #[.int .i64 0, .int .i64 0, .string ⟨#[]⟩] 23)).cell? ⟨b, off, none⟩ = some (.int .u8 k) := below_cell hB (Nat.le_refl _) (rdb_cell hx (i := 0) rfl)
    obtain ⟨hk0, hk1⟩ := hb k (by simp)
    have hbr : Bytes r := fun x hx => hb x (List.mem_cons_of_mem _ hx)
    have hn0 : ¬ (n : Int) = 0 := by omega
    have hn2 : (0 : Int) < (n : Int) := by omega
    have hn3 : 0 < n := by omega
    have hn4 : (1 : Int) ≤ (n : Int) := by omega
    have hwk : IntKind.i64.wrap k = k := wrap_i64_small k hk0 (by omega)
    have hc1 : (1 : Int) ≤ (cap : Int) := by omega
    have hblt : b < (w.alloc (.cells #[.int .i64 0, .int .i64 0, .string ⟨#[]⟩] 23)).heap.size := Nat.lt_of_lt_of_le hbl hB.size
    have hA : Below w.heap.size w ((w.alloc (.cells #[.int .i64 0, .int .i64 0, .string ⟨#[]⟩] 23)).alloc (.cells #[.int .i64 0, .int .i64 0, .string ⟨#[]⟩] 23)).drew := (hB.alloc (by simp) _).drew
    have hC : Below w.heap.size w (w.alloc (.cells #[.int .i64 0, .int .i64 0, .string ⟨#[]⟩] 23)).drew := hB.drew
    have hg0 : (w.alloc (.cells #[.int .i64 0, .int .i64 0, .string ⟨#[]⟩] 23)).heap[w.heap.size]? = some (.cells #[.int .i64 0, .int .i64 0, .string ⟨#[]⟩] 23) := heap_alloc_new _ _
    have hs1 : (w.alloc (.cells #[.int .i64 0, .int .i64 0, .string ⟨#[]⟩] 23)).heap.size = w.heap.size + 1 := by simp
    have hz : ∀ (X : World) (q : Nat), X.heap[q]? = some (.cells #[.int .i64 0, .int .i64 0, .string ⟨#[]⟩] 23) → (X.cell? ⟨q, 0, none⟩ = some (.int .i64 0) ∧ X.cell? ⟨q, 1, none⟩ = some (.int .i64 0) ∧ X.cell? ⟨q, 2, none⟩ = some (.string ⟨#[]⟩)) ∧ X.frozen? ⟨q, 0, none⟩ = false ∧ X.frozen? ⟨q, 1, none⟩ = false ∧ X.frozen? ⟨q, 2, none⟩ = false := fun X q h =>
      ⟨⟨by rw [cell_of_row _ _ _ _ _ _ h]; rfl, by rw [cell_of_row _ _ _ _ _ _ h]; rfl, by rw [cell_of_row _ _ _ _ _ _ h]; rfl⟩, Lib.frozen_of_heap h _, Lib.frozen_of_heap h _, Lib.frozen_of_heap h _⟩
    have hg1 : (((w.alloc (.cells #[.int .i64 0, .int .i64 0, .string ⟨#[]⟩] 23)).alloc (.cells #[.int .i64 0, .int .i64 0, .string ⟨#[]⟩] 23)).drew).heap[w.heap.size + 1]? = some (.cells #[.int .i64 0, .int .i64 0, .string ⟨#[]⟩] 23) := by
      have := heap_alloc_new (w.alloc (.cells #[.int .i64 0, .int .i64 0, .string ⟨#[]⟩] 23)) (.cells #[.int .i64 0, .int .i64 0, .string ⟨#[]⟩] 23)
      rw [hs1] at this
      exact this
    have hgA : (((w.alloc (.cells #[.int .i64 0, .int .i64 0, .string ⟨#[]⟩] 23)).alloc (.cells #[.int .i64 0, .int .i64 0, .string ⟨#[]⟩] 23)).drew).heap[w.heap.size]? = some (.cells #[.int .i64 0, .int .i64 0, .string ⟨#[]⟩] 23) := by
      show ((w.alloc _).alloc _).heap[w.heap.size]? = _
      rw [heap_alloc_old _ _ (by rw [hs1]; omega)]; exact hg0
    have hq : ∀ w3 : World, Below (((w.alloc (.cells #[.int .i64 0, .int .i64 0, .string ⟨#[]⟩] 23)).alloc (.cells #[.int .i64 0, .int .i64 0, .string ⟨#[]⟩] 23)).drew).heap.size (((w.alloc (.cells #[.int .i64 0, .int .i64 0, .string ⟨#[]⟩] 23)).alloc (.cells #[.int .i64 0, .int .i64 0, .string ⟨#[]⟩] 23)).drew) w3 → (w3.cell? ⟨w.heap.size + 1, 0, none⟩ = some (.int .i64 0) ∧ w3.cell? ⟨w.heap.size + 1, 1, none⟩ = some (.int .i64 0) ∧ w3.cell? ⟨w.heap.size + 1, 2, none⟩ = some (.string ⟨#[]⟩)) ∧ w3.frozen? ⟨w.heap.size + 1, 0, none⟩ = false ∧ w3.frozen? ⟨w.heap.size + 1, 1, none⟩ = false ∧ w3.frozen? ⟨w.heap.size + 1, 2, none⟩ = false := fun w3 h =>
      hz w3 _ ((h.block _ (by show _ < ((w.alloc _).alloc _).heap.size; simp)).trans hg1)
    have HQ := Lib.hid hq
    clear hq
    have HZ := Lib.hid hz
    have HGA := Lib.hid hgA
    have HG1 := Lib.hid hg1
    have HG0 := Lib.hid hg0
    have hsA : (((w.alloc (.cells #[.int .i64 0, .int .i64 0, .string ⟨#[]⟩] 23)).alloc (.cells #[.int .i64 0, .int .i64 0, .string ⟨#[]⟩] 23)).drew).heap.size = w.heap.size + 2 := by show ((w.alloc _).alloc _).heap.size = _; simp
    have HSA := Lib.hid hsA
    have HS1 := Lib.hid hs1
    clear cb hz hgA hg1 hg0 hsA hs1
    by_cases hce : cap = 1
    · have hce' : (cap : Int) = 1 := by omega
      have hrd : ∀ W, Below w.heap.size w W → RdB W (some ⟨b, off, none⟩) (n - 1) r := fun W _ =>
        ⟨by rw [hlen]; simp, fun j y hj => by
          have h1 := (List.getElem?_eq_some_iff.1 hj).1
          rw [List.length_cons] at hlen; omega⟩
      have htk : ∀ W, Below w.heap.size w W → Calls Tryz.prog 77 #[.int .i64 k, .slice (some ⟨b, off, none⟩) (n - 1) (0)] W (TakenOut k r W) := fun W hW =>
        taken_calls b _ _ _ k r W (hrd W hW) (Nat.lt_of_lt_of_le hbl hW.size) hbr (by omega) (by omega) (by unfold maxLen at hcm ⊢; omega) (tabs_below hT hW)
      have HTK := Lib.hid htk
      have HA := Lib.hid hA
      have HC := Lib.hid hC
      have HB := Lib.hid hB
      clear htk hrd hA hC hx hb hT hlen hbr hB
      go_enter Tryz.func65, Tryz.ntmps65
      go_wp2_with fail
      go_region_law (go_simp; go_wp2_with (first | (go_at_call 77; refine (HTK.out _ HA.out).mono ?_; rintro e w3 ⟨hb3, m, s, ok, rfl, hfin⟩; have hfin := Lib.hid hfin; have hs3 : w.heap.size < w3.heap.size := (by first | (have := hb3.size; have := HSA.out; omega) | (have h1 := hb3.size; have h2 := HS1.out; have h3 : w.heap.size + 1 ≤ w3.heap.size := (by rw [← h2]; exact h1); omega)); obtain ⟨⟨r0, r1, r2⟩, r3, r4, r5⟩ := HZ.out w3 w.heap.size (by first | exact (hb3.block _ (by have := HSA.out; omega)).trans HGA.out | exact (hb3.block _ (by have := HS1.out; show w.heap.size < (w.alloc _).heap.size; omega)).trans HG0.out); obtain ⟨⟨q0, q1, q2⟩, q3, q4, q5⟩ := HQ.out w3 hb3; have hbw3 : Below w.heap.size w w3 := (by first | exact HA.out.trans (hb3.mono HA.out.size) | exact HC.out.trans (hb3.mono HC.out.size)); have hb3 := Lib.hid hb3; have hbw3 := Lib.hid hbw3) | (go_at_call 77; refine (HTK.out _ HC.out).mono ?_; rintro e w3 ⟨hb3, m, s, ok, rfl, hfin⟩; have hfin := Lib.hid hfin; have hs3 : w.heap.size < w3.heap.size := (by first | (have := hb3.size; have := HSA.out; omega) | (have h1 := hb3.size; have h2 := HS1.out; have h3 : w.heap.size + 1 ≤ w3.heap.size := (by rw [← h2]; exact h1); omega)); obtain ⟨⟨r0, r1, r2⟩, r3, r4, r5⟩ := HZ.out w3 w.heap.size (by first | exact (hb3.block _ (by have := HSA.out; omega)).trans HGA.out | exact (hb3.block _ (by have := HS1.out; show w.heap.size < (w.alloc _).heap.size; omega)).trans HG0.out); have hbw3 : Below w.heap.size w w3 := (by first | exact HA.out.trans (hb3.mono HA.out.size) | exact HC.out.trans (hb3.mono HC.out.size)); have hb3 := Lib.hid hb3; have hbw3 := Lib.hid hbw3)))
      all_goals (cases ok)
      all_goals go_wp2
      all_goals (
        obtain ⟨⟨m0, m1⟩, m2⟩ := set3_alloc (.int .i64 k) (.int .i64 m) (.string s) (.cells #[.int .i64 k, .int .i64 m, .string s] 23) r0 r1 r2
        obtain ⟨⟨l0, l1⟩, l2⟩ := set3_alloc (.int .i64 0) (.int .i64 0) (.string ⟨#[]⟩) (.cells #[.int .i64 k, .int .i64 m, .string s] 23) r0 r1 r2
        refine bodyPost_ret (by simp [results, Tryz.results65, go_sem, r0, r1, r2, m0, m1, m2, l0, l1, l2]; try rfl) rfl ?_)
      all_goals (
        refine ⟨?_, ?_⟩
        · first
            | (with_reducible refine Below.alloc ?_ ?_ _
               · exact ((hbw3.out.setCell (p := ⟨w.heap.size, 0, none⟩) (Nat.le_refl _) _).setCell (p := ⟨w.heap.size, 1, none⟩) (Nat.le_refl _) _).setCell (p := ⟨w.heap.size, 2, none⟩) (Nat.le_refl _) _
               · rw [World.size_setCell, World.size_setCell, World.size_setCell]; omega)
            | exact (((((hbw3.out.setCell (p := ⟨w.heap.size + 1, 0, none⟩) (Nat.le_succ _) _).setCell (p := ⟨w.heap.size + 1, 1, none⟩) (Nat.le_succ _) _).setCell (p := ⟨w.heap.size + 1, 2, none⟩) (Nat.le_succ _) _).setCell (p := ⟨w.heap.size, 0, none⟩) (Nat.le_refl _) _).setCell (p := ⟨w.heap.size, 1, none⟩) (Nat.le_refl _) _).setCell (p := ⟨w.heap.size, 2, none⟩) (Nat.le_refl _) _
        · first
            | exact .inl ⟨k, m, s, by show (takenV k r).map (fun p => (k, p.1, p.2)) = _; rw [hfin.out]; rfl, rfl⟩
            | exact .inr ⟨by show (takenV k r).map (fun p => (k, p.1, p.2)) = _; rw [hfin.out]; rfl, rfl⟩)
    · have hce' : ¬ (cap : Int) = 1 := by omega
      have hrd : ∀ W, Below w.heap.size w W → RdB W (some ⟨b, off + 1, none⟩) (n - 1) r := fun W hW => (rdb_drop hx 1).below hW
      have htk : ∀ W, Below w.heap.size w W → Calls Tryz.prog 77 #[.int .i64 k, .slice (some ⟨b, off + 1, none⟩) (n - 1) (cap - 1)] W (TakenOut k r W) := fun W hW =>
        taken_calls b _ _ _ k r W (hrd W hW) (Nat.lt_of_lt_of_le hbl hW.size) hbr (by omega) (by omega) (by unfold maxLen at hcm ⊢; omega) (tabs_below hT hW)
      have HTK := Lib.hid htk
      have HA := Lib.hid hA
      have HC := Lib.hid hC
      have HB := Lib.hid hB
      clear htk hrd hA hC hx hb hT hlen hbr hB
      go_enter Tryz.func65, Tryz.ntmps65
      go_wp2_with fail
      go_region_law (go_simp; go_wp2_with (first | (go_at_call 77; refine (HTK.out _ HA.out).mono ?_; rintro e w3 ⟨hb3, m, s, ok, rfl, hfin⟩; have hfin := Lib.hid hfin; have hs3 : w.heap.size < w3.heap.size := (by first | (have := hb3.size; have := HSA.out; omega) | (have h1 := hb3.size; have h2 := HS1.out; have h3 : w.heap.size + 1 ≤ w3.heap.size := (by rw [← h2]; exact h1); omega)); obtain ⟨⟨r0, r1, r2⟩, r3, r4, r5⟩ := HZ.out w3 w.heap.size (by first | exact (hb3.block _ (by have := HSA.out; omega)).trans HGA.out | exact (hb3.block _ (by have := HS1.out; show w.heap.size < (w.alloc _).heap.size; omega)).trans HG0.out); obtain ⟨⟨q0, q1, q2⟩, q3, q4, q5⟩ := HQ.out w3 hb3; have hbw3 : Below w.heap.size w w3 := (by first | exact HA.out.trans (hb3.mono HA.out.size) | exact HC.out.trans (hb3.mono HC.out.size)); have hb3 := Lib.hid hb3; have hbw3 := Lib.hid hbw3) | (go_at_call 77; refine (HTK.out _ HC.out).mono ?_; rintro e w3 ⟨hb3, m, s, ok, rfl, hfin⟩; have hfin := Lib.hid hfin; have hs3 : w.heap.size < w3.heap.size := (by first | (have := hb3.size; have := HSA.out; omega) | (have h1 := hb3.size; have h2 := HS1.out; have h3 : w.heap.size + 1 ≤ w3.heap.size := (by rw [← h2]; exact h1); omega)); obtain ⟨⟨r0, r1, r2⟩, r3, r4, r5⟩ := HZ.out w3 w.heap.size (by first | exact (hb3.block _ (by have := HSA.out; omega)).trans HGA.out | exact (hb3.block _ (by have := HS1.out; show w.heap.size < (w.alloc _).heap.size; omega)).trans HG0.out); have hbw3 : Below w.heap.size w w3 := (by first | exact HA.out.trans (hb3.mono HA.out.size) | exact HC.out.trans (hb3.mono HC.out.size)); have hb3 := Lib.hid hb3; have hbw3 := Lib.hid hbw3)))
      all_goals (cases ok)
      all_goals go_wp2
      all_goals (
        obtain ⟨⟨m0, m1⟩, m2⟩ := set3_alloc (.int .i64 k) (.int .i64 m) (.string s) (.cells #[.int .i64 k, .int .i64 m, .string s] 23) r0 r1 r2
        obtain ⟨⟨l0, l1⟩, l2⟩ := set3_alloc (.int .i64 0) (.int .i64 0) (.string ⟨#[]⟩) (.cells #[.int .i64 k, .int .i64 m, .string s] 23) r0 r1 r2
        refine bodyPost_ret (by simp [results, Tryz.results65, go_sem, r0, r1, r2, m0, m1, m2, l0, l1, l2]; try rfl) rfl ?_)
      all_goals (
        refine ⟨?_, ?_⟩
        · first
            | (with_reducible refine Below.alloc ?_ ?_ _
               · exact ((hbw3.out.setCell (p := ⟨w.heap.size, 0, none⟩) (Nat.le_refl _) _).setCell (p := ⟨w.heap.size, 1, none⟩) (Nat.le_refl _) _).setCell (p := ⟨w.heap.size, 2, none⟩) (Nat.le_refl _) _
               · rw [World.size_setCell, World.size_setCell, World.size_setCell]; omega)
            | exact (((((hbw3.out.setCell (p := ⟨w.heap.size + 1, 0, none⟩) (Nat.le_succ _) _).setCell (p := ⟨w.heap.size + 1, 1, none⟩) (Nat.le_succ _) _).setCell (p := ⟨w.heap.size + 1, 2, none⟩) (Nat.le_succ _) _).setCell (p := ⟨w.heap.size, 0, none⟩) (Nat.le_refl _) _).setCell (p := ⟨w.heap.size, 1, none⟩) (Nat.le_refl _) _).setCell (p := ⟨w.heap.size, 2, none⟩) (Nat.le_refl _) _
        · first
            | exact .inl ⟨k, m, s, by show (takenV k r).map (fun p => (k, p.1, p.2)) = _; rw [hfin.out]; rfl, rfl⟩
            | exact .inr ⟨by show (takenV k r).map (fun p => (k, p.1, p.2)) = _; rw [hfin.out]; rfl, rfl⟩)
end Go.Proofs.YtonghiaocpenaaaGreatDoor
