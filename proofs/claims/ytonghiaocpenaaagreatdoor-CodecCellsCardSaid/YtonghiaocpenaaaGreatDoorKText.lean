/-
  The writer's text.
-/
import Derived.Test.YtonghiaocpenaaaGreatDoorKWByte
namespace Go.Proofs.YtonghiaocpenaaaGreatDoor
open Go.RowKit

theorem Wr.old {B b : Nat} {xs : List Int} {w w' : World} (h : Wr B b xs w) (hb : Below w.heap.size w w') : Wr B b xs w' := LibA.IsBuffer.old h hb
theorem Wr.lt {B b : Nat} {xs : List Int} {w : World} (h : Wr B b xs w) : b < w.heap.size := LibA.IsBuffer.lt h
/-- The literal that is written. -/
theorem write_calls (B b : Nat) (xs ys : List Int) (w : World) (h : Wr B b xs w) (hBw : B ≤ w.heap.size) (hlim : xs.length ≤ 1000000) (a n cap : Nat) (hy : ∀ (j : Nat) (x : Int), ys[j]? = some x → w.cell? ⟨a, j, none⟩ = some (.int .u8 x)) (hn : ys.length = n) (hn1 : n ≤ 1000000) (hab : a ≠ b) :
    Calls Tryz.prog 48 #[.pointer (some ⟨b, 0, none⟩), .slice (some ⟨a, 0, none⟩) n cap] w fun e w' => e = .returned (.tuple #[.int .i64 n, .nilIface]) ∧ Wr B b (xs ++ ys) w' ∧ Below B w w' ∧ Lib.OthersKept 5 (some b) w w' := by
  have h1 : ∀ (zs : List Int), ∀ v ∈ zs.map (Value.int .u8), v.oneCell' = true := by
    intro zs v hv
    obtain ⟨x, _, rfl⟩ := List.mem_map.1 hv
    rfl
  unfold Wr
  rw [List.map_append]
  exact Tryz.Buffer_Write_at 54 (fun _ => none) B b 0 (xs.map (Value.int .u8)) (ys.map (Value.int .u8)) ⟨a, 0, none⟩ n cap w h hBw (h1 _) (by rw [List.length_map, hn]) hab (fun j v hj => by
    rw [Lib.addr_add, Nat.zero_add]
    rw [List.getElem?_map] at hj
    obtain ⟨x, hx, rfl⟩ := Option.map_eq_some_iff.1 hj
    exact hy j x hx) (h1 _) (by rw [List.length_map]; omega)

theorem esc_step (l : List UInt8) (k : Nat) (x : UInt8) (h : l[k]? = some x) : (l.take (k + 1)).flatMap esc1 = (l.take k).flatMap esc1 ++ esc1 x := by
  rw [List.take_add_one, h]; simp

set_option maxHeartbeats 2000000 in
set_option maxRecDepth 20000 in
theorem text_calls (B b : Nat) (xs : List Int) (s : ByteArray) (w : World) (h : Wr B b xs w) (hBw : B ≤ w.heap.size) (hlim : xs.length ≤ 10000) (hs : s.size ≤ 10000) :
    Calls Tryz.prog 47 #[.pointer (some ⟨b, 0, none⟩), .string s] w fun e w' => e = .returned (.tuple #[]) ∧ Wr B b (xs ++ escL s) w' ∧ Below B w w' ∧ Lib.OthersKept 5 (some b) w w' := by
  have hsl : s.data.toList.length = s.size := (Lib.size_eq s).symm
  have hcv := Lib.run_convert_string_bytes (P := Tryz.prog) w 9 29 5 s (u := .string) Tryz.underlying9 Tryz.underlying29 Tryz.underlying5
  have hb2 := Lib.bytesWorld_below w 5 s
  have hg2 := Lib.bytesWorld_at_new w 5 s
  have hcur : ∀ (k : Nat) (x : UInt8), s.data.toList[k]? = some x → (Lib.bytesCells w 5 s)[k]? = some (Value.int .u8 x.toNat) := by
    intro k x hk
    have hkl := (List.getElem?_eq_some_iff.1 hk).1
    have := Lib.bytesWorld_cell w 5 s k (by omega)
    rw [cell_of_row _ _ _ _ _ _ hg2] at this
    rw [this, List.getD_eq_getElem?_getD, hk]
    rfl
  generalize Lib.bytesWorld w 5 s = W2 at hcv hb2 hg2
  generalize Lib.bytesCells w 5 s = cur at hg2 hcur
  generalize grownCap w s.size 0 5 = cap at hcv
  have hw2 := h.old hb2
  have hBel2 : Below B w W2 := hb2.mono hBw
  have hM2 : Marked b w W2 := Marked.below hb2
  have hne : w.heap.size ≠ b := by have := h.lt; omega
  have HCV := Lib.hid hcv
  have HW2 := Lib.hid hw2
  have HCUR := Lib.hid hcur
  have HG2 := Lib.hid hg2
  have HBEL := Lib.hid hBel2
  have HM2 := Lib.hid hM2
  have HSL := Lib.hid hsl
  clear hcv hw2 hcur hg2 hBel2 hM2 h hb2 hsl
  go_enter Tryz.func47, Tryz.ntmps47
  go_wp2
  rw [HCV.out]
  go_wp2
  go_loopg [9] s.size (fun gk iv wr => ∃ k : Nat, iv = .int .i64 k ∧ k ≤ s.size ∧ gk = s.size - k ∧ Hid (Wr B b (xs ++ (s.data.toList.take k).flatMap esc1) wr) ∧ Hid (Below B w wr) ∧ Hid (Marked b w wr) ∧ Hid (wr.heap[w.heap.size]? = some (.cells cur 5 (cur.size, cur.size + 1))))
  case atStart => exact ⟨0, rfl, Nat.zero_le _, rfl, by rw [List.take_zero, List.flatMap_nil, List.append_nil]; exact HW2, HBEL, HM2, HG2⟩
  case round =>
    clear HW2 HG2 HBEL HM2 HCV
    obtain ⟨k, rfl, hk, rfl, hwr, hbel, hmk, hgr⟩ := hrel
    have hlen : ((s.data.toList.take k).flatMap esc1).length ≤ 20000 := by
      have h1 := esc_len (s.data.toList.take k)
      have h2 : (s.data.toList.take k).length ≤ k := List.length_take_le _ _
      omega
    have hll : (xs ++ (s.data.toList.take k).flatMap esc1).length ≤ 1000000 := by rw [List.length_append]; omega
    have HLL := Lib.hid hll
    have HLE := Lib.hid hlen
    have HNE : Hid (∀ cs, Obj.cells cur 5 (cur.size, cur.size + 1) ≠ .cells cs 5 (0, 0)) := fun cs h => by
      injection h with _ _ h; injection h with _ h; omega
    by_cases hlt : k < s.size
    · obtain ⟨x, hx⟩ : ∃ x, s.data.toList[k]? = some x := ⟨_, List.getElem?_eq_getElem (by rw [HSL.out]; exact hlt)⟩
      have hcell : wr.cell? ⟨w.heap.size, k, none⟩ = some (.int .u8 x.toNat) := by
        rw [cell_of_row _ _ _ _ _ _ hgr.out]; exact HCUR.out k x hx
      have hst := Lib.hid (esc_step s.data.toList k x hx)
      have hB2 := Lib.hid (Nat.le_trans hBw hbel.out.size)
      clear hlen hll hx
      have hk1 : (k : Int) < (s.size : Int) := by omega
      by_cases hx0 : x = 0
      · subst hx0
        have hcell : wr.cell? ⟨w.heap.size, k, none⟩ = some (.int .u8 0) := hcell
        have he1 : esc1 0 = [0] ++ [255] := rfl
        have HE1 := Lib.hid he1
        clear he1
        go_wp2_with (go_at_call 50; refine (wbyte_calls B b _ _ _ hwr.out hB2.out HLL.out).mono ?_; rintro e w3 ⟨rfl, hw3, hb3, hm3⟩; have hw3 := Lib.hid hw3; have hg3 := Lib.hid (hm3 _ _ hne HNE.out hgr.out); have hb3 := Lib.hid (hbel.out.trans hb3); have hm3 := Lib.hid (hmk.out.trans hm3); have hB3 := Lib.hid (Nat.le_trans hBw hb3.out.size))
        have hl3 : Hid ((xs ++ (s.data.toList.take k).flatMap esc1 ++ [0]).length ≤ 1000000) := by have := HLE.out; unfold Hid; rw [List.length_append, List.length_append, List.length_cons, List.length_nil]; omega
        go_wp2_with (go_at_call 50; refine (wbyte_calls B b _ _ _ hw3.out hB3.out hl3.out).mono ?_; rintro e w4 ⟨rfl, hw4, hb4, hm4⟩; have hw4 := Lib.hid hw4; have hg4 := Lib.hid (hm4 _ _ hne HNE.out hg3.out); have hb4 := Lib.hid (hb3.out.trans hb4); have hm4 := Lib.hid (hm3.out.trans hm4))
        go_roundg (s.size - (k + 1))
        case measure => omega
        case rel => exact ⟨k + 1, by go_num, by omega, rfl, by rw [hst.out, HE1.out, ← List.append_assoc, ← List.append_assoc]; exact hw4, hb4, hm4, hg4⟩
      · have hz : ¬ ((x.toNat : Int) = 0) := fun e => hx0 (UInt8.toNat_inj.1 (by show x.toNat = 0; omega))
        have he1 : esc1 x = [(x.toNat : Int)] := by unfold esc1; rw [if_neg hx0]
        have HE1 := Lib.hid he1
        clear he1
        go_wp2_with (go_at_call 50; refine (wbyte_calls B b _ _ _ hwr.out hB2.out HLL.out).mono ?_; rintro e w3 ⟨rfl, hw3, hb3, hm3⟩; have hw3 := Lib.hid hw3; have hg3 := Lib.hid (hm3 _ _ hne HNE.out hgr.out); have hb3 := Lib.hid (hbel.out.trans hb3); have hm3 := Lib.hid (hmk.out.trans hm3); have hB3 := Lib.hid (Nat.le_trans hBw hb3.out.size))
        go_roundg (s.size - (k + 1))
        case measure => omega
        case rel => exact ⟨k + 1, by go_num, by omega, rfl, by rw [hst.out, HE1.out, ← List.append_assoc]; exact hw3, hb3, hm3, hg3⟩
    · obtain rfl : k = s.size := by omega
      have hfull : (s.data.toList.take s.size).flatMap esc1 = s.data.toList.flatMap esc1 := by rw [List.take_of_length_le (by rw [HSL.out]; exact Nat.le_refl _)]
      rw [hfull] at hwr HLL
      have hblt := Lib.hid hwr.out.lt
      have hwz := Lib.hid (write_calls B b _ [0, 1] (wr.alloc (.cells #[.int .u8 0, .int .u8 1] 5)) (hwr.out.old ((Below.refl _ _).alloc (Nat.le_refl _) _)) (Nat.le_trans hBw (hbel.out.alloc (Nat.le_trans hBw hbel.out.size) _).size) HLL.out wr.heap.size 2 2 (fun j x hj => by
        rw [World.cell?_alloc_new]
        rcases j with _ | _ | j
        · simp at hj; subst hj; rfl
        · simp at hj; subst hj; rfl
        · simp at hj) rfl (by omega) (by have := hblt.out; omega))
      clear hlen hll
      go_wp2_with (go_at_call 48; refine hwz.out.mono ?_; rintro e w3 ⟨rfl, hw3, hb3, hk3⟩; have hw3 := Lib.hid hw3; have hb3 := Lib.hid hb3; have hk3 := Lib.hid hk3)
      go_wp2
      go_end0
      exact ⟨rfl, by unfold escL; rw [← List.append_assoc]; exact hw3.out, (hbel.out.alloc (Nat.le_trans hBw hbel.out.size) _).trans hb3.out, (hmk.out.others.alloc _).trans hk3.out⟩
end Go.Proofs.YtonghiaocpenaaaGreatDoor
