/-
  joistref00.SameBytes; the law package's long.
-/
import Derived.Test.YtonghiaocpenaaaGreatDoorKOrd
import Derived.Test.YtonghiaocpenaaaGreatDoorKCells
namespace Go.Proofs.YtonghiaocpenaaaGreatDoor
open Go.RowKit

section
variable {α : Type}
theorem rd_block {sz : Nat} {enc : α → List Value} {w : World} {b : Nat} {cs : Array Value} {T : TypeId} {f : Nat × Nat} (h : w.heap[b]? = some (.cells cs T f)) (xs : List α) (hx : cs.toList = xs.flatMap enc) (hsz : ∀ x, (enc x).length = sz) :
    Rd sz enc w (some ⟨b, 0, none⟩) xs.length xs :=
  ⟨rfl, fun i c hc => by
    have hb : b < w.heap.size := by
      rcases Nat.lt_or_ge b w.heap.size with hh | hh
      · exact hh
      · rw [Array.getElem?_eq_none hh] at h; cases h
    refine ⟨b, 0, rfl, hb, fun j v hv => ?_⟩
    have := flat_at hsz xs i j c v hc hv
    rw [← hx, Array.getElem?_toList] at this
    simp [World.cell?, h, this]⟩
end
def Cell.zero : Cell := ⟨⟨#[]⟩, ⟨#[]⟩, ⟨#[]⟩, 0, 0, 0, 0, ⟨#[]⟩⟩
/-- A cell, box by box. -/
theorem cells_get {w : World} {b : Nat} {c : Cell} (h : ∀ (i : Nat) v, c.cells[i]? = some v → w.cell? ⟨b, i, none⟩ = some v) : w.cell? ⟨b, 0, none⟩ = some (.string c.row) ∧ w.cell? ⟨b, 1, none⟩ = some (.string c.fam) ∧ w.cell? ⟨b, 2, none⟩ = some (.string c.qual) ∧ w.cell? ⟨b, 3, none⟩ = some (.int .i64 c.time) ∧
    w.cell? ⟨b, 4, none⟩ = some (.int .i64 c.kind) ∧ w.cell? ⟨b, 5, none⟩ = some (.int .i64 c.vk) ∧ w.cell? ⟨b, 6, none⟩ = some (.int .i64 c.vn) ∧ w.cell? ⟨b, 7, none⟩ = some (.string c.vs) :=
  ⟨h 0 _ rfl, h 1 _ rfl, h 2 _ rfl, h 3 _ rfl, h 4 _ rfl, h 5 _ rfl, h 6 _ rfl, h 7 _ rfl⟩
theorem cells_below {w w' : World} {b : Nat} {c : Cell} (hb : Below w.heap.size w w') (h : ∀ (i : Nat) v, c.cells[i]? = some v → w.cell? ⟨b, i, none⟩ = some v) : ∀ (i : Nat) v, c.cells[i]? = some v → w'.cell? ⟨b, i, none⟩ = some v := fun i v hv => below_cell hb (Nat.le_refl _) (h i v hv)
theorem str_beq (s t : ByteArray) : (s.toList == t.toList) = decide (s = t) := by
  rw [Bool.eq_iff_iff, beq_iff_eq, decide_eq_true_eq, ByteArray.toList_eq, ByteArray.toList_eq]
  constructor
  · intro h
    cases s; cases t
    simpa using h
  · rintro rfl; rfl
theorem drewN_below (w : World) : ∀ n, Below w.heap.size w (w.drewN n) := by
  have : ∀ (n : Nat) (W : World), Below w.heap.size W (W.drewN n) := by
    intro n
    induction n with
    | zero => intro W; exact Below.refl _ _
    | succ n ih => intro W; exact ((ih W).trans (Below.drew (Below.refl _ _)))
  exact fun n => this n w
set_option maxHeartbeats 1000000 in
theorem sameb_calls (A B : Option Addr) (n m ca cb : Nat) (xs ys : List Int) (w : World) (hx : RdB w A n xs) (hy : RdB w B m ys) (hn : n ≤ 100000000) (hm : m ≤ 100000000) :
    Calls Tryz.prog 15 #[.slice A n ca, .slice B m cb] w fun e w' => e = .returned (.bool (decide (xs = ys))) ∧ ∃ q, w' = w.drewN q := by
  by_cases hnm : n = m
  · subst hnm
    go_enter Tryz.func15, Tryz.ntmps15
    go_wp2
    go_loopw [5] (fun i wr => ∃ k q : Nat, k ≤ n ∧ i = .int .i64 k ∧ wr = w.drewN q ∧ Hid (xs.take k = ys.take k)) (fun i _ => n - (intOf i).toNat)
    case atStart => exact ⟨0, 0, Nat.zero_le _, rfl, rfl, rfl⟩
    case round =>
      obtain ⟨k, q, hk, rfl, rfl, hall⟩ := hrel
      by_cases hlt : k < n
      · obtain ⟨c, b, off, hc, rfl, _, hk8⟩ := hx.get k hlt
        obtain ⟨d, b', off', hd, rfl, _, hl8⟩ := hy.get k hlt
        have k0 : w.cell? ⟨b, off + k, none⟩ = some (.int .u8 c) := by have := hk8 0 _ rfl; simpa using this
        have l0 : w.cell? ⟨b', off' + k, none⟩ = some (.int .u8 d) := by have := hl8 0 _ rfl; simpa using this
        clear hk8 hl8
        have HX := Lib.hid hx
        have HY := Lib.hid hy
        have HC := Lib.hid hc
        have HD := Lib.hid hd
        clear hx hy hc hd
        by_cases heq : c = d
        · have hn : (c != d) = false := by simp [heq]
          have hE := Lib.hid heq
          clear heq
          go_wp2
          go_quiet (fail)
          go_wp2
          go_roundw
          case rel =>
            refine ⟨k + 1, q + nq, by omega, by go_num, rfl, ?_⟩
            have := hall.out
            show xs.take (k + 1) = ys.take (k + 1)
            rw [List.take_add_one, List.take_add_one, HC.out, HD.out, this, hE.out]
          case measure => simp [intOf]; omega
        · have hn : (c != d) = true := by simp [heq]
          have hE : Hid (¬ xs = ys) := fun e => by
            have h1 := HC.out
            rw [e, HD.out] at h1
            exact heq (Option.some.inj h1).symm
          clear heq
          go_wp2
          go_quiet (fail)
          go_wp2
          go_ret
          exact ⟨ret_bool (by rw [decide_eq_false hE.out]), _, by rw [World.drewN_drewN]⟩
      · have hE : Hid (xs = ys) := by
          have := hall.out
          have h1 := hx.len
          have h2 := hy.len
          rwa [List.take_of_length_le (by omega), List.take_of_length_le (by omega)] at this
        clear hx hy
        go_wp2
        go_ret
        exact ⟨ret_bool (by rw [decide_eq_true hE.out]), _, rfl⟩
  · have hE : Hid (¬ xs = ys) := fun e => hnm (by rw [hx.len, hy.len, e])
    have h1 : ((n : Int) != (m : Int)) = true := by simp; omega
    clear hx hy
    go_enter Tryz.func15, Tryz.ntmps15
    go_wp2
    go_ret
    exact ⟨ret_bool (by rw [decide_eq_false hE.out]), 0, rfl⟩

theorem longl_calls (A : Option Addr) (n ca : Nat) (xs : List Cell) (w : World) (hx : RdC w A n xs) (hn : n ≤ 140737488351232) :
    Calls Tryz.prog 6 #[.slice A n ca] w fun e w' => e = .returned (.bool (longC xs 10)) ∧ w' = w := by
  have hl := Lib.hid (long_calls A n ca xs 10 w hx hn)
  go_enter Tryz.func6, Tryz.ntmps6
  go_wp2_with fail
  refine hl.out.mono ?_
  rintro e w' ⟨rfl, rfl⟩
  go_wp2
  go_ret
  exact ⟨rfl, rfl⟩
end Go.Proofs.YtonghiaocpenaaaGreatDoor
