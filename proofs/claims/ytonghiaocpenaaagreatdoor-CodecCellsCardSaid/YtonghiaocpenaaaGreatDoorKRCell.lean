/-
  (*reader).cell: a cell, all that is left.
-/
import Derived.Test.YtonghiaocpenaaaGreatDoorKRCellA
namespace Go.Proofs.YtonghiaocpenaaaGreatDoor
open Go.RowKit

/-- A cell's own part: what is told of its value. -/
def cellW (r4 : List Int) : Option (Int × Int × ByteArray) := if r4 = [] then some (0, 0, ⟨#[]⟩) else valV r4
/-- The cell of bytes. -/
def cellV (xs : List Int) : Option Cell :=
  (readV [] xs).bind fun (row, r1) => (readV [] r1).bind fun (fam, r2) => (readV [] r2).bind fun (qual, r3) =>
    if row.isNone = false ∧ fam.isNone = false then
      (timeV r3).bind fun (t, r) => r.head?.bind fun kb => (cellW r.tail).bind fun v =>
        let c : Cell := ⟨ofL (row.getD []), ofL (fam.getD []), ofL (qual.getD []), t, 255 - kb, v.1, v.2.1, v.2.2⟩
        if c.ok = true ∧ (qual.isNone = decide (c.kind = 4)) then some c else none
    else none
def CellOut (xs : List Int) (rb : Nat) (w : World) (e : Ending) (w' : World) : Prop :=
  Only (fun k => k = rb) w w' ∧ ((∃ c, cellV xs = some c ∧ e = .returned c.v) ∨ (cellV xs = none ∧ e = .panicked badC))
abbrev zeroC : Array Value := #[.string ⟨#[]⟩, .string ⟨#[]⟩, .string ⟨#[]⟩, .int .i64 0, .int .i64 0, .int .i64 0, .int .i64 0, .string ⟨#[]⟩]

theorem read_size {xs r : List Int} {q : Option (List Int)} {s : ByteArray} (h : readV [] xs = some (q, r)) (hs : s = ofL (q.getD [])) (hx : xs.length ≤ 1000000) : s.size ≤ 140737488351232 := by
  subst hs
  cases q with
  | none => exact Nat.zero_le _
  | some t =>
    have h1 := read_len h
    have h2 : (ofL t).size = t.length := by show (Lib.bytesOf t).toArray.size = _; simp [Lib.bytesOf]
    show (ofL t).size ≤ _
    omega

set_option maxHeartbeats 1000000 in
set_option maxRecDepth 100000 in
theorem rcell_calls (lim rb : Nat) (xs : List Int) (w : World) (h : RdrAt lim rb xs w) (hll : lim ≤ rb) (wE : World) (hlim : lim = wE.heap.size) (hE : Below lim wE w) (hG : Ground wE) : Calls Tryz.prog 44 #[.pointer (some ⟨rb, 0, none⟩)] w (CellOut xs rb w) := by
  have hrb := h.lt
  obtain ⟨W0, hW0⟩ : ∃ W0, W0 = (w.alloc (.cells zeroC 25)).alloc (.cells zeroC 25) := ⟨_, rfl⟩
  have hB0 : Below w.heap.size w W0 := by rw [hW0]; exact ((Below.refl _ _).alloc (Nat.le_refl _) _).alloc (by simp) _
  have hg0 : W0.heap[w.heap.size]? = some (.cells zeroC 25) := by
    rw [hW0, heap_alloc_old _ _ (by simp), heap_alloc_new]
  have hg1 : W0.heap[w.heap.size + 1]? = some (.cells zeroC 25) := by
    have := heap_alloc_new (w.alloc (.cells zeroC 25)) (.cells zeroC 25)
    rw [hW0]
    simpa using this
  have hs0 : W0.heap.size = w.heap.size + 2 := by rw [hW0]; simp
  have R0 := Lib.hid (h.below hB0)
  have O0 : Hid (Only (fun k => k = rb) w W0) := hB0.only _
  have G0 := Lib.hid hg0
  have G1 := Lib.hid hg1
  have S0 := Lib.hid hs0
  have HW0 := Lib.hid hW0
  have htabs : ∀ X : World, Only (fun k => k = rb) w X → Lib.Utf8Tabs 0 1 X := fun X hX => by
    subst hlim
    exact tabs_below hG.tabs (hE.trans (hX.below (hE.size) (fun i hi => by omega)))
  have HTABS := Lib.hid htabs
  clear htabs hE hlim
  have HN := fun w => Lib.hid (need_ok w)
  have HNB := fun w => Lib.hid (need_bad w)
  clear h hB0 hg0 hg1 hs0 hW0 hG
  go_enter Tryz.func44, Tryz.ntmps44
  go_wp2_with fail
  rw [← HW0.out]
  refine (rtext2_calls lim rb xs W0 R0.out).mono ?_
  rintro e W1 ⟨ho1, ⟨q1, r1, s1, a1, hv1, hs1, ha1, rfl, hr1⟩ | ⟨hv1, rfl⟩⟩
  rotate_left
  · exact ⟨rfl, O0.out.trans ho1, .inr ⟨by unfold cellV; rw [hv1]; rfl, rfl⟩⟩
  have R1 := Lib.hid hr1
  have hz1 := read_size hv1 hs1 R0.out.len
  have O1 := Lib.hid (O0.out.trans ho1)
  have G0 := Lib.hid ((ho1.block _ (by have := S0.out; omega) (by omega)).trans G0.out)
  have G1 := Lib.hid ((ho1.block _ (by have := S0.out; omega) (by omega)).trans G1.out)
  have S1 : Hid (w.heap.size + 2 ≤ W1.heap.size) := by have := S0.out; have := ho1.size; unfold Hid; omega
  have V1 := Lib.hid hv1
  have T1 := Lib.hid hs1
  have A1 := Lib.hid ha1
  clear hr1 ho1 hv1 hs1 ha1 R0 O0
  go_wp2_with fail
  refine (rtext2_calls lim rb r1 W1 R1.out).mono ?_
  rintro e W2 ⟨ho2, ⟨q2, r2, s2, a2, hv2, hs2, ha2, rfl, hr2⟩ | ⟨hv2, rfl⟩⟩
  rotate_left
  · exact ⟨rfl, O1.out.trans ho2, .inr ⟨by unfold cellV; rw [V1.out]; simp only [Option.bind_some]; rw [hv2]; rfl, rfl⟩⟩
  have R2 := Lib.hid hr2
  have hz2 := read_size hv2 hs2 R1.out.len
  have O2 := Lib.hid (O1.out.trans ho2)
  have G0 := Lib.hid ((ho2.block _ (by have := S1.out; omega) (by omega)).trans G0.out)
  have G1 := Lib.hid ((ho2.block _ (by have := S1.out; omega) (by omega)).trans G1.out)
  have S2 : Hid (w.heap.size + 2 ≤ W2.heap.size) := by have := S1.out; have := ho2.size; unfold Hid; omega
  have V2 := Lib.hid hv2
  have T2 := Lib.hid hs2
  have A2 := Lib.hid ha2
  clear hr2 ho2 hv2 hs2 ha2 R1 O1
  go_wp2_with fail
  refine (rtext2_calls lim rb r2 W2 R2.out).mono ?_
  rintro e W3 ⟨ho3, ⟨q3, r3, s3, a3, hv3, hs3, ha3, rfl, hr3⟩ | ⟨hv3, rfl⟩⟩
  rotate_left
  · exact ⟨rfl, O2.out.trans ho3, .inr ⟨by unfold cellV; rw [V1.out]; simp only [Option.bind_some]; rw [V2.out]; simp only [Option.bind_some]; rw [hv3]; rfl, rfl⟩⟩
  have R3 := Lib.hid hr3
  have hz3 := read_size hv3 hs3 R2.out.len
  have O3 := Lib.hid (O2.out.trans ho3)
  have g0 := (ho3.block _ (by have := S2.out; omega) (by omega)).trans G0.out
  have g1 := (ho3.block _ (by have := S2.out; omega) (by omega)).trans G1.out
  have G0 := Lib.hid g0
  have S3 : Hid (w.heap.size + 2 ≤ W3.heap.size) := by have := S2.out; have := ho3.size; unfold Hid; omega
  have V3 := Lib.hid hv3
  have T3 := Lib.hid hs3
  have A3 := Lib.hid ha3
  have hcv : cellV xs = if a1 = false ∧ a2 = false then (timeV r3).bind fun (t, r) => r.head?.bind fun kb => (cellW r.tail).bind fun v =>
        let c : Cell := ⟨s1, s2, s3, t, 255 - kb, v.1, v.2.1, v.2.2⟩
        if c.ok = true ∧ (a3 = decide (c.kind = 4)) then some c else none
    else none := by
    unfold cellV
    rw [V1.out]; simp only [Option.bind_some]; rw [V2.out]; simp only [Option.bind_some]; rw [V3.out]; simp only [Option.bind_some]
    rw [← A1.out, ← A2.out, ← A3.out, ← T1.out, ← T2.out, ← T3.out]
  have CV := Lib.hid hcv
  have cells : ∀ (X : World) (cs : Array Value), X.heap[w.heap.size + 1]? = some (.cells cs 25) → (∀ (i : Nat) v, cs[i]? = some v → X.cell? ⟨w.heap.size + 1, i, none⟩ = some v) ∧ ∀ i, X.frozen? ⟨w.heap.size + 1, i, none⟩ = false := fun X cs hX =>
    ⟨fun i v hv => by rw [cell_of_row _ _ _ _ _ _ hX]; exact hv, fun i => Lib.frozen_of_heap hX _⟩
  have CELLS := Lib.hid cells
  have cellsr : ∀ (X : World) (cs : Array Value), X.heap[w.heap.size]? = some (.cells cs 25) → (∀ (i : Nat) v, cs[i]? = some v → X.cell? ⟨w.heap.size, i, none⟩ = some v) ∧ ∀ i, X.frozen? ⟨w.heap.size, i, none⟩ = false := fun X cs hX =>
    ⟨fun i v hv => by rw [cell_of_row _ _ _ _ _ _ hX]; exact hv, fun i => Lib.frozen_of_heap hX _⟩
  have CELLSR := Lib.hid cellsr
  have hstr : ∀ (X : World) (i : Nat) (v : Value), Only (fun k => k = rb) w X → Only (fun k => k = rb) w (X.setCell ⟨w.heap.size, i, none⟩ v) := fun X i v hX =>
    hX.trans' (T := fun k => k = w.heap.size) ⟨rfl, rfl, rfl, by simp, fun k _ hk => heap_setCell_other X ⟨w.heap.size, i, none⟩ k v hk⟩ (fun i hi => .inr (by omega))
  have HSTR := Lib.hid hstr
  clear cellsr hstr
  obtain ⟨c0, c1⟩ := cells W3 _ g1
  have k0 : W3.cell? ⟨w.heap.size + 1, 0, none⟩ = some (.string ⟨#[]⟩) := c0 0 _ rfl
  have k1 : W3.cell? ⟨w.heap.size + 1, 1, none⟩ = some (.string ⟨#[]⟩) := c0 1 _ rfl
  have k2 : W3.cell? ⟨w.heap.size + 1, 2, none⟩ = some (.string ⟨#[]⟩) := c0 2 _ rfl
  have k3 := c1 0
  have k4 := c1 1
  have k5 := c1 2
  have hg4 : (((W3.setCell ⟨w.heap.size + 1, 0, none⟩ (.string s1)).setCell ⟨w.heap.size + 1, 1, none⟩ (.string s2)).setCell ⟨w.heap.size + 1, 2, none⟩ (.string s3)).heap[w.heap.size + 1]? = some (.cells #[.string s1, .string s2, .string s3, .int .i64 0, .int .i64 0, .int .i64 0, .int .i64 0, .string ⟨#[]⟩] 25) := by
    have e1 := Lib.heap_setCell_same (i := 0) g1 (.string s1)
    have e2 := Lib.heap_setCell_same (i := 1) e1 (.string s2)
    have e3 := Lib.heap_setCell_same (i := 2) e2 (.string s3)
    simpa using e3
  have hg5 : (((W3.setCell ⟨w.heap.size + 1, 0, none⟩ (.string s1)).setCell ⟨w.heap.size + 1, 1, none⟩ (.string s2)).setCell ⟨w.heap.size + 1, 2, none⟩ (.string s3)).heap[w.heap.size]? = some (.cells zeroC 25) := by
    rw [Below.heap_setCell _ _ _ _ (by simp), Below.heap_setCell _ _ _ _ (by simp), Below.heap_setCell _ _ _ _ (by simp)]
    exact g0
  have R4 := Lib.hid (((hr3.store ⟨w.heap.size + 1, 0, none⟩ (.string s1) (by show w.heap.size + 1 ≠ rb; omega) (by show lim ≤ w.heap.size + 1; omega)).store ⟨w.heap.size + 1, 1, none⟩ (.string s2) (by show w.heap.size + 1 ≠ rb; omega) (by show lim ≤ w.heap.size + 1; omega)).store ⟨w.heap.size + 1, 2, none⟩ (.string s3) (by show w.heap.size + 1 ≠ rb; omega) (by show lim ≤ w.heap.size + 1; omega))
  have hst : ∀ (X : World) (i : Nat) (v : Value), Only (fun k => k = rb) w X → Only (fun k => k = rb) w (X.setCell ⟨w.heap.size + 1, i, none⟩ v) := fun X i v hX =>
    hX.trans' (T := fun k => k = w.heap.size + 1) ⟨rfl, rfl, rfl, by simp, fun k _ hk => heap_setCell_other X ⟨w.heap.size + 1, i, none⟩ k v hk⟩ (fun i hi => .inr (by omega))
  have O4 := Lib.hid (hst _ 2 (.string s3) (hst _ 1 (.string s2) (hst _ 0 (.string s1) O3.out)))
  have HST := Lib.hid hst
  have S4 : Hid (w.heap.size + 2 ≤ (((W3.setCell ⟨w.heap.size + 1, 0, none⟩ (.string s1)).setCell ⟨w.heap.size + 1, 1, none⟩ (.string s2)).setCell ⟨w.heap.size + 1, 2, none⟩ (.string s3)).heap.size) := by
    unfold Hid; rw [World.size_setCell, World.size_setCell, World.size_setCell]; exact S3.out
  have G4 := Lib.hid hg4
  have G5 := Lib.hid hg5
  clear hr3 ho3 hv3 hs3 ha3 R2 O2 hcv cells c0 c1 g0 g1 hg4 hg5 hst G1
  by_cases hab : a1 = false ∧ a2 = false
  rotate_left
  · have hno : cellV xs = none := by rw [CV.out, if_neg hab]
    have HNO := Lib.hid hno
    clear hno
    have hcase : a1 = true ∨ (a1 = false ∧ a2 = true) := by
      cases a1 <;> cases a2 <;> simp_all
    rcases hcase with rfl | ⟨rfl, rfl⟩
    · go_wp2_with fail
      refine (HNB _).out.mono ?_
      rintro e W3 ⟨rfl, rfl⟩
      exact ⟨rfl, O3.out, .inr ⟨HNO.out, rfl⟩⟩
    · go_wp2_with fail
      refine (HNB _).out.mono ?_
      rintro e W3 ⟨rfl, rfl⟩
      exact ⟨rfl, O3.out, .inr ⟨HNO.out, rfl⟩⟩
  obtain ⟨rfl, rfl⟩ := hab
  rw [if_pos ⟨rfl, rfl⟩] at CV
  go_wp2_with fail
  refine (HN _).out.mono ?_
  rintro e W3 ⟨rfl, rfl⟩
  go_wp2_with fail
  generalize ((W3.setCell ⟨w.heap.size + 1, 0, none⟩ (.string s1)).setCell ⟨w.heap.size + 1, 1, none⟩ (.string s2)).setCell ⟨w.heap.size + 1, 2, none⟩ (.string s3) = W4 at *
  clear k0 k1 k2 k3 k4 k5
  refine (rtime_calls lim rb r3 W4 R4.out).mono ?_
  rintro e W5 ⟨ho5, ⟨t, r4, ht, rfl, hr5⟩ | ⟨ht, rfl⟩⟩
  rotate_left
  · exact ⟨rfl, O4.out.trans ho5, .inr ⟨by rw [CV.out, ht]; rfl, rfl⟩⟩
  have hti : isInt t := by
    unfold timeV at ht
    split at ht
    · injection ht with ht
      injection ht with ht _
      rw [← ht]; exact time_int _
    · cases ht
  rw [ht] at CV
  simp only [Option.bind_some] at CV
  have g5c := (ho5.block _ (by have := S4.out; omega) (by omega)).trans G4.out
  have g5r := (ho5.block _ (by have := S4.out; omega) (by omega)).trans G5.out
  have O5 := O4.out.trans ho5
  have S5 : w.heap.size + 2 ≤ W5.heap.size := by have := S4.out; have := ho5.size; omega
  obtain ⟨c0, c1⟩ := CELLS.out W5 _ g5c
  have k3 : W5.cell? ⟨w.heap.size + 1, 3, none⟩ = some (.int .i64 0) := c0 3 _ rfl
  have k4 := c1 3
  have g6c : (W5.setCell ⟨w.heap.size + 1, 3, none⟩ (.int .i64 t)).heap[w.heap.size + 1]? = some (.cells #[.string s1, .string s2, .string s3, .int .i64 t, .int .i64 0, .int .i64 0, .int .i64 0, .string ⟨#[]⟩] 25) := by
    have := Lib.heap_setCell_same (i := 3) g5c (.int .i64 t)
    simpa using this
  have g6r : (W5.setCell ⟨w.heap.size + 1, 3, none⟩ (.int .i64 t)).heap[w.heap.size]? = some (.cells zeroC 25) := by
    rw [Below.heap_setCell _ _ _ _ (by simp)]; exact g5r
  have R6 := Lib.hid (hr5.store ⟨w.heap.size + 1, 3, none⟩ (.int .i64 t) (by show w.heap.size + 1 ≠ rb; omega) (by show lim ≤ w.heap.size + 1; omega))
  have O6 := Lib.hid (HST.out _ 3 (.int .i64 t) O5)
  have S6 : Hid (w.heap.size + 2 ≤ (W5.setCell ⟨w.heap.size + 1, 3, none⟩ (.int .i64 t)).heap.size) := by unfold Hid; rw [World.size_setCell]; exact S5
  have G6C := Lib.hid g6c
  have G6R := Lib.hid g6r
  clear ho5 hr5 ht g5c g5r O5 S5 c0 c1 g6c g6r R4 O4 G4 G5 S4
  go_wp2_with fail
  generalize W5.setCell ⟨w.heap.size + 1, 3, none⟩ (.int .i64 t) = W6 at *
  clear k3 k4
  refine (byte_calls lim rb r4 W6 R6.out).mono ?_
  rintro e W7 (⟨kb, r5, rfl, rfl, hr7, ho7⟩ | ⟨rfl, rfl, rfl⟩)
  rotate_left
  · exact ⟨rfl, O6.out, .inr ⟨by rw [CV.out]; rfl, rfl⟩⟩
  obtain ⟨kb0, kb1⟩ := R6.out.bytes kb (by simp)
  simp only [List.head?_cons, Option.bind_some, List.tail_cons] at CV
  have hwk : IntKind.i64.wrap kb = kb := wrap_i64_small kb kb0 (by omega)
  have g7c := (ho7.block _ (by have := S6.out; omega) (by omega)).trans G6C.out
  have g7r := (ho7.block _ (by have := S6.out; omega) (by omega)).trans G6R.out
  have O7 := O6.out.trans ho7
  have S7 : w.heap.size + 2 ≤ W7.heap.size := by have := S6.out; have := ho7.size; omega
  obtain ⟨c0, c1⟩ := CELLS.out W7 _ g7c
  have k3 : W7.cell? ⟨w.heap.size + 1, 4, none⟩ = some (.int .i64 0) := c0 4 _ rfl
  have k4 := c1 4
  have g8c : (W7.setCell ⟨w.heap.size + 1, 4, none⟩ (.int .i64 (255 - kb))).heap[w.heap.size + 1]? = some (.cells #[.string s1, .string s2, .string s3, .int .i64 t, .int .i64 (255 - kb), .int .i64 0, .int .i64 0, .string ⟨#[]⟩] 25) := by
    have := Lib.heap_setCell_same (i := 4) g7c (.int .i64 (255 - kb))
    simpa using this
  have g8r : (W7.setCell ⟨w.heap.size + 1, 4, none⟩ (.int .i64 (255 - kb))).heap[w.heap.size]? = some (.cells zeroC 25) := by
    rw [Below.heap_setCell _ _ _ _ (by simp)]; exact g7r
  have R8 := Lib.hid (hr7.store ⟨w.heap.size + 1, 4, none⟩ (.int .i64 (255 - kb)) (by show w.heap.size + 1 ≠ rb; omega) (by show lim ≤ w.heap.size + 1; omega))
  have O8 := Lib.hid (HST.out _ 4 (.int .i64 (255 - kb)) O7)
  have S8 : Hid (w.heap.size + 2 ≤ (W7.setCell ⟨w.heap.size + 1, 4, none⟩ (.int .i64 (255 - kb))).heap.size) := by unfold Hid; rw [World.size_setCell]; exact S7
  have G8C := Lib.hid g8c
  have G8R := Lib.hid g8r
  obtain ⟨A, n, cap, hc, hf, hx, hby, h1, h2, h3, h4, h5⟩ := R8.out
  have HX := Lib.hid hx
  have HBY := Lib.hid hby
  clear ho7 hr7 g7c g7r O7 S7 c0 c1 g8c g8r R6 O6 G6C G6R S6 hx hby hf
  cases hr5 : r5 with
  | nil =>
    obtain rfl : n = 0 := by rw [HX.out.len, hr5]; rfl
    rw [hr5] at CV
    have GC := G8C
    have GR := G8R
    have OT := O8
    have ST := S8
    have hTT := HTABS.out _ OT.out
    have hzv : (⟨#[]⟩ : ByteArray).size ≤ 140737488351232 := by decide
    have hki : isInt 0 := by unfold isInt; omega
    have hni : isInt 0 := by unfold isInt; omega
    have hkk : isInt (255 - kb) := by unfold isInt; omega
    have CV2 : Hid (cellV xs = if (⟨s1, s2, s3, t, 255 - kb, 0, 0, ⟨#[]⟩⟩ : Cell).ok = true ∧ (a3 = decide (255 - kb = 4)) then some (⟨s1, s2, s3, t, 255 - kb, 0, 0, ⟨#[]⟩⟩ : Cell) else none) := by
      unfold Hid; rw [CV.out]; rfl
    generalize hWT : W7.setCell ⟨w.heap.size + 1, 4, none⟩ (.int .i64 (255 - kb)) = WT at *
    clear R8 O8 G8C G8R S8
    have hcf : (⟨s1, s2, s3, t, 255 - kb, 0, 0, ⟨#[]⟩⟩ : Cell).fits := ⟨hz1, hz2, hz3, hzv, hti, hkk, hki, hni⟩
    have hrc := right_calls ⟨s1, s2, s3, t, 255 - kb, 0, 0, ⟨#[]⟩⟩ WT hcf hTT
    have HRC := Lib.hid hrc
    obtain ⟨z0, -⟩ := CELLS.out WT _ GC.out
    have e0 : WT.cell? ⟨w.heap.size + 1, 0, none⟩ = some (.string s1) := z0 0 _ rfl
    have e1 : WT.cell? ⟨w.heap.size + 1, 1, none⟩ = some (.string s2) := z0 1 _ rfl
    have e2 : WT.cell? ⟨w.heap.size + 1, 2, none⟩ = some (.string s3) := z0 2 _ rfl
    have e3 : WT.cell? ⟨w.heap.size + 1, 3, none⟩ = some (.int .i64 t) := z0 3 _ rfl
    have e4 : WT.cell? ⟨w.heap.size + 1, 4, none⟩ = some (.int .i64 (255 - kb)) := z0 4 _ rfl
    have e5 : WT.cell? ⟨w.heap.size + 1, 5, none⟩ = some (.int .i64 0) := z0 5 _ rfl
    have e6 : WT.cell? ⟨w.heap.size + 1, 6, none⟩ = some (.int .i64 0) := z0 6 _ rfl
    have e7 : WT.cell? ⟨w.heap.size + 1, 7, none⟩ = some (.string ⟨#[]⟩) := z0 7 _ rfl
    clear hrc hcf z0
    go_wp2_with fail
    refine HRC.out.mono ?_
    rintro e W9 ⟨rfl, hb9⟩
    have gc9 := (hb9.block _ (by have := ST.out; omega)).trans GC.out
    have gr9 := (hb9.block _ (by have := ST.out; omega)).trans GR.out
    have O9 := Lib.hid (OT.out.trans (hb9.only _))
    have S9 : Hid (w.heap.size + 2 ≤ W9.heap.size) := by have := ST.out; have := hb9.size; unfold Hid; omega
    obtain ⟨z0, -⟩ := CELLS.out W9 _ gc9
    have f0 : W9.cell? ⟨w.heap.size + 1, 0, none⟩ = some (.string s1) := z0 0 _ rfl
    have f1 : W9.cell? ⟨w.heap.size + 1, 1, none⟩ = some (.string s2) := z0 1 _ rfl
    have f2 : W9.cell? ⟨w.heap.size + 1, 2, none⟩ = some (.string s3) := z0 2 _ rfl
    have f3 : W9.cell? ⟨w.heap.size + 1, 3, none⟩ = some (.int .i64 t) := z0 3 _ rfl
    have f4 : W9.cell? ⟨w.heap.size + 1, 4, none⟩ = some (.int .i64 (255 - kb)) := z0 4 _ rfl
    have f5 : W9.cell? ⟨w.heap.size + 1, 5, none⟩ = some (.int .i64 0) := z0 5 _ rfl
    have f6 : W9.cell? ⟨w.heap.size + 1, 6, none⟩ = some (.int .i64 0) := z0 6 _ rfl
    have f7 : W9.cell? ⟨w.heap.size + 1, 7, none⟩ = some (.string ⟨#[]⟩) := z0 7 _ rfl
    have GR9 := Lib.hid gr9
    clear hb9 z0 gc9 gr9 e0 e1 e2 e3 e4 e5 e6 e7
    cases hok : (⟨s1, s2, s3, t, 255 - kb, 0, 0, ⟨#[]⟩⟩ : Cell).ok with
    | false =>
      have CV3 := Lib.hid (CV2.out.trans (if_neg (by rw [hok]; simp)))
      clear hok
      go_wp2_with fail
      refine (HNB _).out.mono ?_
      rintro e W9 ⟨rfl, rfl⟩
      exact ⟨rfl, O9.out, .inr ⟨CV3.out, rfl⟩⟩
    | true =>
      by_cases h4 : 255 - kb = 4
      · cases a3 with
        | true =>
          have CV3 := Lib.hid (CV2.out.trans (if_pos ⟨hok, by simp [h4]⟩))
          clear hok
          go_wp2_with fail
          refine (HN _).out.mono ?_
          rintro e W9 ⟨rfl, rfl⟩
          obtain ⟨y0, y1⟩ := CELLSR.out W9 _ GR9.out
          have m0 : W9.cell? ⟨w.heap.size, 0, none⟩ = some (.string ⟨#[]⟩) := y0 0 _ rfl
          have m1 : W9.cell? ⟨w.heap.size, 1, none⟩ = some (.string ⟨#[]⟩) := y0 1 _ rfl
          have m2 : W9.cell? ⟨w.heap.size, 2, none⟩ = some (.string ⟨#[]⟩) := y0 2 _ rfl
          have m3 : W9.cell? ⟨w.heap.size, 3, none⟩ = some (.int .i64 0) := y0 3 _ rfl
          have m4 : W9.cell? ⟨w.heap.size, 4, none⟩ = some (.int .i64 0) := y0 4 _ rfl
          have m5 : W9.cell? ⟨w.heap.size, 5, none⟩ = some (.int .i64 0) := y0 5 _ rfl
          have m6 : W9.cell? ⟨w.heap.size, 6, none⟩ = some (.int .i64 0) := y0 6 _ rfl
          have m7 : W9.cell? ⟨w.heap.size, 7, none⟩ = some (.string ⟨#[]⟩) := y0 7 _ rfl
          have p0 := y1 0
          have p1 := y1 1
          have p2 := y1 2
          have p3 := y1 3
          have p4 := y1 4
          have p5 := y1 5
          have p6 := y1 6
          have p7 := y1 7
          clear y0 y1
          go_wp2
          refine bodyPost_ret (by simp [results, Tryz.results44, go_sem, m0, m1, m2, m3, m4, m5, m6, m7]; try rfl) rfl ?_
          exact ⟨HSTR.out _ 7 _ (HSTR.out _ 6 _ (HSTR.out _ 5 _ (HSTR.out _ 4 _ (HSTR.out _ 3 _ (HSTR.out _ 2 _ (HSTR.out _ 1 _ (HSTR.out _ 0 _ O9.out))))))), .inl ⟨_, CV3.out, by first | rfl | (simp only [Cell.v]; rw [h4])⟩⟩
        | false =>
          have CV3 := Lib.hid (CV2.out.trans (if_neg (by rw [hok]; simp [h4])))
          clear hok
          go_wp2_with fail
          refine (HNB _).out.mono ?_
          rintro e W9 ⟨rfl, rfl⟩
          exact ⟨rfl, O9.out, .inr ⟨CV3.out, rfl⟩⟩
      · have h4' : ((255 - kb : Int) == 4) = false := by rw [beq_eq_false_iff_ne]; exact h4
        cases a3 with
        | true =>
          have CV3 := Lib.hid (CV2.out.trans (if_neg (by rw [hok]; simp [h4])))
          clear hok
          go_wp2_with fail
          refine (HNB _).out.mono ?_
          rintro e W9 ⟨rfl, rfl⟩
          exact ⟨rfl, O9.out, .inr ⟨CV3.out, rfl⟩⟩
        | false =>
          have CV3 := Lib.hid (CV2.out.trans (if_pos ⟨hok, by simp [h4]⟩))
          clear hok
          go_wp2_with fail
          refine (HN _).out.mono ?_
          rintro e W9 ⟨rfl, rfl⟩
          obtain ⟨y0, y1⟩ := CELLSR.out W9 _ GR9.out
          have m0 : W9.cell? ⟨w.heap.size, 0, none⟩ = some (.string ⟨#[]⟩) := y0 0 _ rfl
          have m1 : W9.cell? ⟨w.heap.size, 1, none⟩ = some (.string ⟨#[]⟩) := y0 1 _ rfl
          have m2 : W9.cell? ⟨w.heap.size, 2, none⟩ = some (.string ⟨#[]⟩) := y0 2 _ rfl
          have m3 : W9.cell? ⟨w.heap.size, 3, none⟩ = some (.int .i64 0) := y0 3 _ rfl
          have m4 : W9.cell? ⟨w.heap.size, 4, none⟩ = some (.int .i64 0) := y0 4 _ rfl
          have m5 : W9.cell? ⟨w.heap.size, 5, none⟩ = some (.int .i64 0) := y0 5 _ rfl
          have m6 : W9.cell? ⟨w.heap.size, 6, none⟩ = some (.int .i64 0) := y0 6 _ rfl
          have m7 : W9.cell? ⟨w.heap.size, 7, none⟩ = some (.string ⟨#[]⟩) := y0 7 _ rfl
          have p0 := y1 0
          have p1 := y1 1
          have p2 := y1 2
          have p3 := y1 3
          have p4 := y1 4
          have p5 := y1 5
          have p6 := y1 6
          have p7 := y1 7
          clear y0 y1
          go_wp2
          refine bodyPost_ret (by simp [results, Tryz.results44, go_sem, m0, m1, m2, m3, m4, m5, m6, m7]; try rfl) rfl ?_
          exact ⟨HSTR.out _ 7 _ (HSTR.out _ 6 _ (HSTR.out _ 5 _ (HSTR.out _ 4 _ (HSTR.out _ 3 _ (HSTR.out _ 2 _ (HSTR.out _ 1 _ (HSTR.out _ 0 _ O9.out))))))), .inl ⟨_, CV3.out, by first | rfl | (simp only [Cell.v]; rw [h4])⟩⟩
  | cons y ys =>
    have hn1 : 1 ≤ n := by rw [HX.out.len, hr5]; simp
    have hn2 : (0 : Int) < (n : Int) := by omega
    have hTT := HTABS.out _ O8.out
    generalize hW8 : W7.setCell ⟨w.heap.size + 1, 4, none⟩ (.int .i64 (255 - kb)) = W8 at *
    rcases h3 with rfl | ⟨b, o, rfl, hbl⟩
    · exfalso
      obtain ⟨b, off, h, _⟩ := HX.out.at_ 0 y (by rw [hr5]; rfl)
      cases h
    have hvd := Lib.hid (vdec_calls b o n cap r5 W8 HX.out (by have := S8.out; omega) HBY.out h5 h1 h2 hTT)
    have HR5 := Lib.hid hr5
    clear hr5 hTT
    go_wp2_with fail
    refine hvd.out.mono ?_
    rintro e W10 ⟨hb10, ⟨vk, vn, vs, hval, rfl⟩ | ⟨hval, rfl⟩⟩
    · have hfit := val_fits HBY.out hval
      have hki := hfit.1
      have hni := hfit.2.1
      have hzv : vs.size ≤ 140737488351232 := by have h := hfit.2.2; rw [← HX.out.len] at h; omega
      have hkk : isInt (255 - kb) := by unfold isInt; omega
      have CV2 : Hid (cellV xs = if (⟨s1, s2, s3, t, 255 - kb, vk, vn, vs⟩ : Cell).ok = true ∧ (a3 = decide (255 - kb = 4)) then some (⟨s1, s2, s3, t, 255 - kb, vk, vn, vs⟩ : Cell) else none) := by
        unfold Hid; rw [CV.out]; unfold cellW; rw [if_neg (by rw [HR5.out]; simp), hval]; rfl
      have hba : Below W10.heap.size W10 (W10.alloc (.cells #[.int .i64 vk, .int .i64 vn, .string vs] 23)) := (Below.refl _ _).alloc (Nat.le_refl _) _
      have hbw := hb10.trans (hba.mono hb10.size)
      have g9c := (hbw.block _ (by have := S8.out; omega)).trans G8C.out
      have g9r := (hbw.block _ (by have := S8.out; omega)).trans G8R.out
      have O9a := O8.out.trans (hbw.only _)
      have S9a : w.heap.size + 2 ≤ (W10.alloc (.cells #[.int .i64 vk, .int .i64 vn, .string vs] 23)).heap.size := Nat.le_trans S8.out hbw.size
      obtain ⟨c0, c1⟩ := CELLS.out _ _ g9c
      have k5 : (W10.alloc (.cells #[.int .i64 vk, .int .i64 vn, .string vs] 23)).cell? ⟨w.heap.size + 1, 5, none⟩ = some (.int .i64 0) := c0 5 _ rfl
      have k6 : (W10.alloc (.cells #[.int .i64 vk, .int .i64 vn, .string vs] 23)).cell? ⟨w.heap.size + 1, 6, none⟩ = some (.int .i64 0) := c0 6 _ rfl
      have k7 : (W10.alloc (.cells #[.int .i64 vk, .int .i64 vn, .string vs] 23)).cell? ⟨w.heap.size + 1, 7, none⟩ = some (.string ⟨#[]⟩) := c0 7 _ rfl
      have l5 := c1 5
      have l6 := c1 6
      have l7 := c1 7
      have gc : ((((W10.alloc (.cells #[.int .i64 vk, .int .i64 vn, .string vs] 23)).setCell ⟨w.heap.size + 1, 5, none⟩ (.int .i64 vk)).setCell ⟨w.heap.size + 1, 6, none⟩ (.int .i64 vn)).setCell ⟨w.heap.size + 1, 7, none⟩ (.string vs)).heap[w.heap.size + 1]? = some (.cells #[.string s1, .string s2, .string s3, .int .i64 t, .int .i64 (255 - kb), .int .i64 vk, .int .i64 vn, .string vs] 25) := by
        have e1 := Lib.heap_setCell_same (i := 5) g9c (.int .i64 vk)
        have e2 := Lib.heap_setCell_same (i := 6) e1 (.int .i64 vn)
        have e3 := Lib.heap_setCell_same (i := 7) e2 (.string vs)
        simpa using e3
      have gr : ((((W10.alloc (.cells #[.int .i64 vk, .int .i64 vn, .string vs] 23)).setCell ⟨w.heap.size + 1, 5, none⟩ (.int .i64 vk)).setCell ⟨w.heap.size + 1, 6, none⟩ (.int .i64 vn)).setCell ⟨w.heap.size + 1, 7, none⟩ (.string vs)).heap[w.heap.size]? = some (.cells zeroC 25) := by
        rw [Below.heap_setCell _ _ _ _ (by simp), Below.heap_setCell _ _ _ _ (by simp), Below.heap_setCell _ _ _ _ (by simp)]
        exact g9r
      have OT := Lib.hid (HST.out _ 7 (.string vs) (HST.out _ 6 (.int .i64 vn) (HST.out _ 5 (.int .i64 vk) O9a)))
      have ST : Hid (w.heap.size + 2 ≤ ((((W10.alloc (.cells #[.int .i64 vk, .int .i64 vn, .string vs] 23)).setCell ⟨w.heap.size + 1, 5, none⟩ (.int .i64 vk)).setCell ⟨w.heap.size + 1, 6, none⟩ (.int .i64 vn)).setCell ⟨w.heap.size + 1, 7, none⟩ (.string vs)).heap.size) := by unfold Hid; rw [World.size_setCell, World.size_setCell, World.size_setCell]; exact S9a
      have hTT := HTABS.out _ OT.out
      have GC := Lib.hid gc
      have GR := Lib.hid gr
      have hc10 : W10.heap.size = W10.heap.size := rfl
      clear gc gr hfit hval hba hbw g9c g9r O9a S9a c0 c1 hb10 hc10 R8 O8 G8C G8R S8 hc
      go_wp2_with fail
      refine (HN _).out.mono ?_
      rintro e W11 ⟨rfl, rfl⟩
      generalize hWT : ((((W10.alloc (.cells #[.int .i64 vk, .int .i64 vn, .string vs] 23)).setCell ⟨w.heap.size + 1, 5, none⟩ (.int .i64 vk)).setCell ⟨w.heap.size + 1, 6, none⟩ (.int .i64 vn)).setCell ⟨w.heap.size + 1, 7, none⟩ (.string vs)) = WT at *
      have hcf : (⟨s1, s2, s3, t, 255 - kb, vk, vn, vs⟩ : Cell).fits := ⟨hz1, hz2, hz3, hzv, hti, hkk, hki, hni⟩
      have hrc := right_calls ⟨s1, s2, s3, t, 255 - kb, vk, vn, vs⟩ WT hcf hTT
      have HRC := Lib.hid hrc
      obtain ⟨z0, -⟩ := CELLS.out WT _ GC.out
      have e0 : WT.cell? ⟨w.heap.size + 1, 0, none⟩ = some (.string s1) := z0 0 _ rfl
      have e1 : WT.cell? ⟨w.heap.size + 1, 1, none⟩ = some (.string s2) := z0 1 _ rfl
      have e2 : WT.cell? ⟨w.heap.size + 1, 2, none⟩ = some (.string s3) := z0 2 _ rfl
      have e3 : WT.cell? ⟨w.heap.size + 1, 3, none⟩ = some (.int .i64 t) := z0 3 _ rfl
      have e4 : WT.cell? ⟨w.heap.size + 1, 4, none⟩ = some (.int .i64 (255 - kb)) := z0 4 _ rfl
      have e5 : WT.cell? ⟨w.heap.size + 1, 5, none⟩ = some (.int .i64 vk) := z0 5 _ rfl
      have e6 : WT.cell? ⟨w.heap.size + 1, 6, none⟩ = some (.int .i64 vn) := z0 6 _ rfl
      have e7 : WT.cell? ⟨w.heap.size + 1, 7, none⟩ = some (.string vs) := z0 7 _ rfl
      clear hrc hcf z0
      go_wp2_with fail
      refine HRC.out.mono ?_
      rintro e W9 ⟨rfl, hb9⟩
      have gc9 := (hb9.block _ (by have := ST.out; omega)).trans GC.out
      have gr9 := (hb9.block _ (by have := ST.out; omega)).trans GR.out
      have O9 := Lib.hid (OT.out.trans (hb9.only _))
      have S9 : Hid (w.heap.size + 2 ≤ W9.heap.size) := by have := ST.out; have := hb9.size; unfold Hid; omega
      obtain ⟨z0, -⟩ := CELLS.out W9 _ gc9
      have f0 : W9.cell? ⟨w.heap.size + 1, 0, none⟩ = some (.string s1) := z0 0 _ rfl
      have f1 : W9.cell? ⟨w.heap.size + 1, 1, none⟩ = some (.string s2) := z0 1 _ rfl
      have f2 : W9.cell? ⟨w.heap.size + 1, 2, none⟩ = some (.string s3) := z0 2 _ rfl
      have f3 : W9.cell? ⟨w.heap.size + 1, 3, none⟩ = some (.int .i64 t) := z0 3 _ rfl
      have f4 : W9.cell? ⟨w.heap.size + 1, 4, none⟩ = some (.int .i64 (255 - kb)) := z0 4 _ rfl
      have f5 : W9.cell? ⟨w.heap.size + 1, 5, none⟩ = some (.int .i64 vk) := z0 5 _ rfl
      have f6 : W9.cell? ⟨w.heap.size + 1, 6, none⟩ = some (.int .i64 vn) := z0 6 _ rfl
      have f7 : W9.cell? ⟨w.heap.size + 1, 7, none⟩ = some (.string vs) := z0 7 _ rfl
      have GR9 := Lib.hid gr9
      clear hb9 z0 gc9 gr9 e0 e1 e2 e3 e4 e5 e6 e7
      cases hok : (⟨s1, s2, s3, t, 255 - kb, vk, vn, vs⟩ : Cell).ok with
      | false =>
        have CV3 := Lib.hid (CV2.out.trans (if_neg (by rw [hok]; simp)))
        clear hok
        go_wp2_with fail
        refine (HNB _).out.mono ?_
        rintro e W9 ⟨rfl, rfl⟩
        exact ⟨rfl, O9.out, .inr ⟨CV3.out, rfl⟩⟩
      | true =>
        by_cases h4 : 255 - kb = 4
        · cases a3 with
          | true =>
            have CV3 := Lib.hid (CV2.out.trans (if_pos ⟨hok, by simp [h4]⟩))
            clear hok
            go_wp2_with fail
            refine (HN _).out.mono ?_
            rintro e W9 ⟨rfl, rfl⟩
            obtain ⟨y0, y1⟩ := CELLSR.out W9 _ GR9.out
            have m0 : W9.cell? ⟨w.heap.size, 0, none⟩ = some (.string ⟨#[]⟩) := y0 0 _ rfl
            have m1 : W9.cell? ⟨w.heap.size, 1, none⟩ = some (.string ⟨#[]⟩) := y0 1 _ rfl
            have m2 : W9.cell? ⟨w.heap.size, 2, none⟩ = some (.string ⟨#[]⟩) := y0 2 _ rfl
            have m3 : W9.cell? ⟨w.heap.size, 3, none⟩ = some (.int .i64 0) := y0 3 _ rfl
            have m4 : W9.cell? ⟨w.heap.size, 4, none⟩ = some (.int .i64 0) := y0 4 _ rfl
            have m5 : W9.cell? ⟨w.heap.size, 5, none⟩ = some (.int .i64 0) := y0 5 _ rfl
            have m6 : W9.cell? ⟨w.heap.size, 6, none⟩ = some (.int .i64 0) := y0 6 _ rfl
            have m7 : W9.cell? ⟨w.heap.size, 7, none⟩ = some (.string ⟨#[]⟩) := y0 7 _ rfl
            have p0 := y1 0
            have p1 := y1 1
            have p2 := y1 2
            have p3 := y1 3
            have p4 := y1 4
            have p5 := y1 5
            have p6 := y1 6
            have p7 := y1 7
            clear y0 y1
            go_wp2
            refine bodyPost_ret (by simp [results, Tryz.results44, go_sem, m0, m1, m2, m3, m4, m5, m6, m7]; try rfl) rfl ?_
            exact ⟨HSTR.out _ 7 _ (HSTR.out _ 6 _ (HSTR.out _ 5 _ (HSTR.out _ 4 _ (HSTR.out _ 3 _ (HSTR.out _ 2 _ (HSTR.out _ 1 _ (HSTR.out _ 0 _ O9.out))))))), .inl ⟨_, CV3.out, by first | rfl | (simp only [Cell.v]; rw [h4])⟩⟩
          | false =>
            have CV3 := Lib.hid (CV2.out.trans (if_neg (by rw [hok]; simp [h4])))
            clear hok
            go_wp2_with fail
            refine (HNB _).out.mono ?_
            rintro e W9 ⟨rfl, rfl⟩
            exact ⟨rfl, O9.out, .inr ⟨CV3.out, rfl⟩⟩
        · have h4' : ((255 - kb : Int) == 4) = false := by rw [beq_eq_false_iff_ne]; exact h4
          cases a3 with
          | true =>
            have CV3 := Lib.hid (CV2.out.trans (if_neg (by rw [hok]; simp [h4])))
            clear hok
            go_wp2_with fail
            refine (HNB _).out.mono ?_
            rintro e W9 ⟨rfl, rfl⟩
            exact ⟨rfl, O9.out, .inr ⟨CV3.out, rfl⟩⟩
          | false =>
            have CV3 := Lib.hid (CV2.out.trans (if_pos ⟨hok, by simp [h4]⟩))
            clear hok
            go_wp2_with fail
            refine (HN _).out.mono ?_
            rintro e W9 ⟨rfl, rfl⟩
            obtain ⟨y0, y1⟩ := CELLSR.out W9 _ GR9.out
            have m0 : W9.cell? ⟨w.heap.size, 0, none⟩ = some (.string ⟨#[]⟩) := y0 0 _ rfl
            have m1 : W9.cell? ⟨w.heap.size, 1, none⟩ = some (.string ⟨#[]⟩) := y0 1 _ rfl
            have m2 : W9.cell? ⟨w.heap.size, 2, none⟩ = some (.string ⟨#[]⟩) := y0 2 _ rfl
            have m3 : W9.cell? ⟨w.heap.size, 3, none⟩ = some (.int .i64 0) := y0 3 _ rfl
            have m4 : W9.cell? ⟨w.heap.size, 4, none⟩ = some (.int .i64 0) := y0 4 _ rfl
            have m5 : W9.cell? ⟨w.heap.size, 5, none⟩ = some (.int .i64 0) := y0 5 _ rfl
            have m6 : W9.cell? ⟨w.heap.size, 6, none⟩ = some (.int .i64 0) := y0 6 _ rfl
            have m7 : W9.cell? ⟨w.heap.size, 7, none⟩ = some (.string ⟨#[]⟩) := y0 7 _ rfl
            have p0 := y1 0
            have p1 := y1 1
            have p2 := y1 2
            have p3 := y1 3
            have p4 := y1 4
            have p5 := y1 5
            have p6 := y1 6
            have p7 := y1 7
            clear y0 y1
            go_wp2
            refine bodyPost_ret (by simp [results, Tryz.results44, go_sem, m0, m1, m2, m3, m4, m5, m6, m7]; try rfl) rfl ?_
            exact ⟨HSTR.out _ 7 _ (HSTR.out _ 6 _ (HSTR.out _ 5 _ (HSTR.out _ 4 _ (HSTR.out _ 3 _ (HSTR.out _ 2 _ (HSTR.out _ 1 _ (HSTR.out _ 0 _ O9.out))))))), .inl ⟨_, CV3.out, by first | rfl | (simp only [Cell.v]; rw [h4])⟩⟩
    · have HNO : Hid (cellV xs = none) := by
        unfold Hid; rw [CV.out]; unfold cellW; rw [if_neg (by rw [HR5.out]; simp), hval]; rfl
      have O10 := Lib.hid (O8.out.trans (hb10.only _))
      go_wp2_with fail
      refine (HNB _).out.mono ?_
      rintro e W11 ⟨rfl, rfl⟩
      exact ⟨rfl, O10.out.trans (((Below.refl _ _).alloc (Nat.le_refl _) _).only _), .inr ⟨HNO.out, rfl⟩⟩
end Go.Proofs.YtonghiaocpenaaaGreatDoor
