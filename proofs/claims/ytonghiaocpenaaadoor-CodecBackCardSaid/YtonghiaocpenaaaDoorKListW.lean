/-
  codec.List.
-/
import Derived.Test.YtonghiaocpenaaaDoorKList
namespace Go.Proofs.YtonghiaocpenaaaDoor
open Go.RowKit

theorem vlq_len2 : ∀ (n : Nat), (vlq n).length ≤ n + 1 := by
  intro n
  induction n using Nat.strongRecOn with
  | _ n ih =>
    by_cases h : 127 < n
    · rw [vlq_more h, List.length_cons]
      have := ih (n / 128) (by omega)
      omega
    · rw [vlq_last h]; simp
/-- How much rows weigh: each one more than its bytes. -/
def weighL (rows : List BRow) : Nat := (rows.map fun r => 1 + r.n).sum
theorem weigh_cons (r : BRow) (rows : List BRow) : weighL (r :: rows) = 1 + r.n + weighL rows := by simp [weighL]
theorem weigh_len : ∀ rows : List BRow, rows.length ≤ weighL rows
  | [] => Nat.zero_le _
  | r :: rows => by rw [weigh_cons, List.length_cons]; have := weigh_len rows; omega
theorem weigh_mem : ∀ {rows : List BRow} {r : BRow}, r ∈ rows → r.n ≤ weighL rows
  | [], r, h => by cases h
  | q :: rows, r, h => by
    rw [weigh_cons]
    rcases List.mem_cons.1 h with rfl | h
    · omega
    · have := weigh_mem h; omega
theorem weigh_app (a b : List BRow) : weighL (a ++ b) = weighL a + weighL b := by simp [weighL]
theorem weigh_take (rows : List BRow) (k : Nat) : weighL (rows.take k) ≤ weighL rows := by
  conv => rhs; rw [← List.take_append_drop k rows, weigh_app]
  omega
theorem rowsL_app (a b : List (List Int)) : rowsL (a ++ b) = rowsL a ++ rowsL b := by
  induction a with
  | nil => rfl
  | cons x a ih => rw [List.cons_append, rowsL, rowsL, ih]; simp only [List.append_assoc]
theorem rowsL_len : ∀ {w : World} (rows : List BRow), (∀ r ∈ rows, BRowOk w r) → (rowsL (rows.map BRow.xs)).length ≤ 2 * weighL rows
  | w, [], _ => Nat.zero_le _
  | w, r :: rows, h => by
    rw [weigh_cons, List.map_cons, rowsL]
    have h1 := rowsL_len rows fun q hq => h q (List.mem_cons_of_mem _ hq)
    have h2 := vlq_len2 r.xs.length
    have h3 := (h r (by simp)).rd.len
    simp only [List.length_append]
    omega

theorem own_nil {w : World} {base n cap : Nat} {A : Option Addr} {xs : List Int} (h : OwnB w base A n cap xs) : A = none → cap = 0 := by
  rintro rfl
  obtain ⟨h0, h1, h2 | ⟨g, cap', cur, h3, _⟩⟩ := h
  · obtain ⟨h2, _⟩ := h2
    injection h2
  · injection h3 with h3; cases h3

set_option maxHeartbeats 2000000 in
set_option maxRecDepth 20000 in
theorem list_calls (A : Option Addr) (n ca : Nat) (rows : List BRow) (w : World) (hx : Rd 1 BRow.l w A n rows) (ho : ∀ r ∈ rows, BRowOk w r) (hs : weighL rows ≤ 100000) :
    Calls Tryd.prog 19 #[.slice A n ca] w (OutB (listL (rows.map BRow.xs)) w) := by
  have HX := Lib.hid hx
  have HO := Lib.hid ho
  have HS := Lib.hid hs
  have hkl := Lib.hid hx.len
  have hn : n ≤ 100000 := by have := weigh_len rows; rw [hx.len]; omega
  clear hx ho hs
  go_enter Tryd.func19, Tryd.ntmps19
  go_wp2_with fail
  refine (num_calls n w (by omega)).mono ?_
  rintro e w1 ⟨A1, n1, cap1, rfl, hown1, hb1⟩
  have HO1 := Lib.hid hown1
  have HB1 := Lib.hid hb1
  clear hown1 hb1
  go_wp2_with fail
  go_loopw [3, 11] (fun o i wr => ∃ (q : Nat) (A2 : Option Addr) (n2 cap2 : Nat), q ≤ n ∧ i = .int .i64 q ∧ o = .slice A2 n2 cap2 ∧ Hid (OwnB wr w.heap.size A2 n2 cap2 (vlq rows.length ++ rowsL ((rows.take q).map BRow.xs))) ∧ Hid (Below w.heap.size w wr)) (fun _ i _ => n - (intOf i).toNat)
  case atStart => exact ⟨0, A1, n1, cap1, Nat.zero_le _, rfl, rfl, by unfold Hid; rw [← hkl.out]; simpa [rowsL] using HO1.out, HB1.out⟩
  case round =>
    obtain ⟨q, A2, n2, cap2, hq, rfl, rfl, HOW, HBW⟩ := hrel
    clear HO1 HB1
    by_cases hlt : q < n
    · obtain ⟨r, b, off, hr, rfl, _, hr1⟩ := HX.out.get q hlt
      have k0' : w.cell? ⟨b, off + q, none⟩ = some (.slice r.A r.n r.cap) := by have := hr1 0 _ rfl; simpa using this
      have k0 := below_cell HBW.out (Nat.le_refl _) k0'
      have hm := List.mem_of_getElem? hr
      have hrow := HO.out r hm
      have hrn : r.n ≤ 100000 := Nat.le_trans (weigh_mem hm) HS.out
      have HROW := Lib.hid (hrow.below HBW.out)
      have HLEN := Lib.hid hrow.rd.len
      have hn2 : n2 ≤ 100001 + 200000 := by
        have h1 := HOW.out.1
        rw [List.length_append] at h1
        have h2 := vlq_len2 rows.length
        have h3 := weigh_len rows
        have h4 := rowsL_len (rows.take q) fun x hx => HO.out x (List.mem_of_mem_take hx)
        have h5 := weigh_take rows q
        have h6 := HS.out
        omega
      have HNEW : Hid (vlq rows.length ++ rowsL ((rows.take (q + 1)).map BRow.xs) = (vlq rows.length ++ rowsL ((rows.take q).map BRow.xs)) ++ (vlq r.n ++ r.xs)) := by
        unfold Hid
        rw [List.take_add_one, hr, List.map_append, rowsL_app, List.append_assoc, hrow.rd.len]
        simp [rowsL]
      obtain ⟨ys, hys⟩ : ∃ ys, ys = vlq rows.length ++ rowsL ((rows.take q).map BRow.xs) := ⟨_, rfl⟩
      rw [← hys] at HOW HNEW
      clear hr1 hr k0' hrow hm hys
      go_wp2_with fail
      refine (num_calls r.n wr (by omega)).mono ?_
      rintro e w2 ⟨A3, n3, cap3, rfl, hown3, hb3⟩
      have hn3 : n3 ≤ 100001 := by have h1 := hown3.1; have h2 := vlq_len2 r.n; omega
      have HO3 := Lib.hid hown3
      have HO2 := Lib.hid (HOW.out.below hb3)
      have HROW2 := Lib.hid (HROW.out.below hb3)
      have HB2 := Lib.hid (HBW.out.trans (hb3.mono HBW.out.size))
      have k1 := below_cell hb3 (Nat.le_refl _) k0
      clear k0 hown3 hb3 HOW HROW HBW
      go_wp2_with fail
      obtain ⟨w3, hw3⟩ : ∃ w3, w3 = w2.alloc (.cells #[.slice A2 n2 cap2, .slice A3 n3 cap3, .slice r.A r.n r.cap] 30) := ⟨_, rfl⟩
      have hb3 : Below w2.heap.size w2 w3 := by rw [hw3]; exact (Below.refl _ _).alloc (Nat.le_refl _) _
      have hblk : w3.heap[w2.heap.size]? = some (.cells #[.slice A2 n2 cap2, .slice A3 n3 cap3, .slice r.A r.n r.cap] 30) := by rw [hw3, heap_alloc_new]
      have hrd : Rd 1 BRow.l w3 (some ⟨w2.heap.size, 0, none⟩) 3 [⟨A2, n2, cap2, ys⟩, ⟨A3, n3, cap3, vlq r.n⟩, r] := rd_block hblk [⟨A2, n2, cap2, ys⟩, ⟨A3, n3, cap3, vlq r.n⟩, r] rfl BRow.l_len
      have hok : ∀ x ∈ [⟨A2, n2, cap2, ys⟩, ⟨A3, n3, cap3, vlq r.n⟩, r], BRowOk w3 x := by
        intro x hx
        simp only [List.mem_cons, List.not_mem_nil, or_false] at hx
        rcases hx with rfl | rfl | rfl
        · exact ⟨(HO2.out.below hb3).rd encB_len, own_nil HO2.out⟩
        · exact ⟨(HO3.out.below hb3).rd encB_len, own_nil HO3.out⟩
        · exact HROW2.out.below hb3
      have hsum : sumL [⟨A2, n2, cap2, ys⟩, ⟨A3, n3, cap3, vlq r.n⟩, r] ≤ 10000000 := by
        unfold sumL
        have h1 := HO2.out.1
        have h2 := HO3.out.1
        have h3 := HLEN.out
        simp
        omega
      have hcc := concat_calls w2.heap.size 3 _ w3 hrd hok hsum (by omega)
      rw [hw3] at hcc
      refine hcc.mono ?_
      clear hcc
      rintro e w4 ⟨A4, n4, cap4, rfl, hown4, hb4⟩
      rw [← hw3] at hb4 hown4
      have HB4 := Lib.hid ((HB2.out.trans (hb3.mono HB2.out.size)).trans (hb4.mono (Nat.le_trans HB2.out.size hb3.size)))
      have HO4 := Lib.hid (hown4.lower (Nat.le_trans HB2.out.size hb3.size))
      clear hb3 hb4 hown4 hrd hok hsum hblk hw3 k1 HO2 HO3 HROW2 HB2
      go_wp2
      go_roundw
      case rel =>
        refine ⟨q + 1, A4, n4, cap4, by omega, by go_num, rfl, ?_, HB4.out⟩
        unfold Hid
        rw [HNEW.out]
        have := HO4.out
        simpa using this
      case measure => simp [intOf]; omega
    · obtain rfl : q = n := by omega
      have hall : rows.take q = rows := List.take_of_length_le (by rw [hkl.out]; exact Nat.le_refl _)
      rw [hall] at HOW
      go_wp2
      go_ret
      refine ⟨A2, n2, cap2, rfl, ?_, HBW.out⟩
      unfold listL
      rw [List.length_map]
      exact HOW.out
end Go.Proofs.YtonghiaocpenaaaDoor
