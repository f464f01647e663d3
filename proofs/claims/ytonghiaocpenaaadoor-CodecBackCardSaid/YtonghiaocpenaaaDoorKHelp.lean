/-
  joistref00.Weigh, SameLists, CopyBytes.
-/
import Derived.Test.YtonghiaocpenaaaDoorKParts
namespace Go.Proofs.YtonghiaocpenaaaDoor
open Go.RowKit

theorem weigh_at {rows : List BRow} {k : Nat} {r : BRow} (h : rows[k]? = some r) : weighL (rows.take (k + 1)) = weighL (rows.take k) + (1 + r.n) := by
  rw [List.take_add_one, h, weigh_app]
  simp [weighL]

set_option maxHeartbeats 1000000 in
theorem weigh_calls (A : Option Addr) (n ca : Nat) (rows : List BRow) (w : World) (hx : Rd 1 BRow.l w A n rows) (ho : ∀ r ∈ rows, r.n ≤ 140737488355328) (hn : n ≤ 140737488355328) :
    Calls Tryd.prog 13 #[.slice A n ca, .int .i64 2000] w fun e w' => ∃ t : Nat, e = .returned (.int .i64 t) ∧ Below w.heap.size w w' ∧ (2000 < t ∨ t = weighL rows) := by
  have HX := Lib.hid hx
  have HO := Lib.hid ho
  have hkl := Lib.hid hx.len
  clear hx ho
  by_cases h0 : 2000 < n
  · have h0' : (2000 : Int) < (n : Int) := by omega
    go_enter Tryd.func13, Tryd.ntmps13
    go_wp2
    go_ret
    exact ⟨2001, rfl, Below.refl _ _, .inl (by omega)⟩
  have h0' : ¬ (2000 : Int) < (n : Int) := by omega
  go_enter Tryd.func13, Tryd.ntmps13
  go_wp2_with fail
  go_loopw [5, 6] (fun sm i wr => ∃ (k t q : Nat), k ≤ n ∧ i = .int .i64 k ∧ sm = .int .i64 t ∧ t ≤ k * 140737488355329 ∧ Hid (t = weighL (rows.take k)) ∧ wr = w.drewN q) (fun _ i _ => n - (intOf i).toNat)
  case atStart => exact ⟨0, 0, 0, Nat.zero_le _, rfl, rfl, Nat.zero_le _, rfl, rfl⟩
  case round =>
    obtain ⟨k, t, q, hk, rfl, rfl, ht, HT, rfl⟩ := hrel
    by_cases hlt : k < n
    · by_cases hmost : t ≤ 2000
      · have hmost' : (t : Int) ≤ 2000 := by omega
        obtain ⟨r, b, off, hr, rfl, _, hr1⟩ := HX.out.get k hlt
        have k0 : w.cell? ⟨b, off + k, none⟩ = some (.slice r.A r.n r.cap) := by have := hr1 0 _ rfl; simpa using this
        have hrn := HO.out r (List.mem_of_getElem? hr)
        have HNEW : Hid (t + (1 + r.n) = weighL (rows.take (k + 1))) := by unfold Hid; rw [weigh_at hr, HT.out]
        clear hr1 hr
        go_wp2
        exact ⟨⟨k + 1, t + (1 + r.n), q, by omega, by go_num, by go_num, by omega, HNEW.out, rfl⟩, by simp [intOf]; omega⟩
      · have hmost' : ¬ (t : Int) ≤ 2000 := by omega
        go_wp2
        go_ret
        exact ⟨t, rfl, drewN_below w q, .inl (by omega)⟩
    · obtain rfl : k = n := by omega
      have hall : rows.take k = rows := List.take_of_length_le (by rw [hkl.out]; exact Nat.le_refl _)
      rw [hall] at HT
      go_wp2
      go_ret
      exact ⟨t, rfl, drewN_below w q, .inr HT.out⟩

set_option maxHeartbeats 1000000 in
theorem samel_calls (A B : Option Addr) (n m ca cb : Nat) (xs ys : List BRow) (w : World) (hx : Rd 1 BRow.l w A n xs) (hy : Rd 1 BRow.l w B m ys) (hox : ∀ r ∈ xs, BRowOk w r ∧ r.n ≤ 10000000) (hoy : ∀ r ∈ ys, BRowOk w r ∧ r.n ≤ 10000000) (hn : n ≤ 1000000) (hm : m ≤ 1000000) :
    Calls Tryd.prog 21 #[.slice A n ca, .slice B m cb] w fun e w' => e = .returned (.bool (decide (xs.map BRow.xs = ys.map BRow.xs))) ∧ Below w.heap.size w w' := by
  by_cases hnm : n = m
  · subst hnm
    go_enter Tryd.func21, Tryd.ntmps21
    go_wp2_with fail
    go_loopw [5] (fun i wr => ∃ k : Nat, k ≤ n ∧ i = .int .i64 k ∧ Hid (Below w.heap.size w wr) ∧ Hid ((xs.map BRow.xs).take k = (ys.map BRow.xs).take k)) (fun i _ => n - (intOf i).toNat)
    case atStart => exact ⟨0, Nat.zero_le _, rfl, Below.refl _ _, rfl⟩
    case round =>
      obtain ⟨k, hk, rfl, HB, hall⟩ := hrel
      by_cases hlt : k < n
      · obtain ⟨c, b, off, hc, rfl, _, hk1⟩ := hx.get k hlt
        obtain ⟨d, b', off', hd, rfl, _, hl1⟩ := hy.get k hlt
        have k0 : w.cell? ⟨b, off + k, none⟩ = some (.slice c.A c.n c.cap) := by have := hk1 0 _ rfl; simpa using this
        have l0 : w.cell? ⟨b', off' + k, none⟩ = some (.slice d.A d.n d.cap) := by have := hl1 0 _ rfl; simpa using this
        have m0 := later_cell (below_cell HB.out (Nat.le_refl _) k0)
        have m1 := later_cell (below_cell HB.out (Nat.le_refl _) l0)
        have hcs : Hid (∀ X, Calls Tryd.prog 22 #[.slice c.A c.n c.cap, .slice d.A d.n d.cap] (wr.later X) fun e w'' => e = .returned (.bool (decide (c.xs = d.xs))) ∧ ∃ Y, w'' = wr.later Y) := fun X => calls_later_drew (sameb_calls _ _ _ _ _ _ _ _ (wr.later X) (((hox c (List.mem_of_getElem? hc)).1.rd.below HB.out).below (later_below _ X)) (((hoy d (List.mem_of_getElem? hd)).1.rd.below HB.out).below (later_below _ X)) (by have := (hox c (List.mem_of_getElem? hc)).2; omega) (by have := (hoy d (List.mem_of_getElem? hd)).2; omega))
        have HX := Lib.hid hx
        have HY := Lib.hid hy
        have HOX := Lib.hid hox
        have HOY := Lib.hid hoy
        have HC : Hid ((xs.map BRow.xs)[k]? = some c.xs) := by unfold Hid; rw [List.getElem?_map, hc]; rfl
        have HD : Hid ((ys.map BRow.xs)[k]? = some d.xs) := by unfold Hid; rw [List.getElem?_map, hd]; rfl
        clear hx hy hc hd hk1 hl1 k0 l0 hox hoy
        by_cases heq : c.xs = d.xs
        · rw [decide_eq_true heq] at hcs
          have hE := Lib.hid heq
          clear heq
          go_wp2
          refine wp_region_later (by kernel_rfl) (by kernel_rfl) ?_
          repeat (go_big_quiet_step ((go_at_call 22; exact hcs.out _)))
          refine wpQuiet_nil ?_
          intro W1 hW1
          have hB1 : Below wr.heap.size wr W1 := by
            obtain ⟨X, rfl⟩ := hW1
            exact later_below wr X
          clear hW1 m0 m1
          have HB1 := Lib.hid (HB.out.trans (hB1.mono HB.out.size))
          clear hB1
          go_wp2
          go_roundw
          case rel =>
            refine ⟨k + 1, by omega, by go_num, HB1.out, ?_⟩
            have := hall.out
            show (xs.map BRow.xs).take (k + 1) = (ys.map BRow.xs).take (k + 1)
            rw [List.take_add_one, List.take_add_one, HC.out, HD.out, this, hE.out]
          case measure => simp [intOf]; omega
        · rw [decide_eq_false heq] at hcs
          have hE : Hid (¬ xs.map BRow.xs = ys.map BRow.xs) := fun e => by
            have h1 := HC.out
            rw [e, HD.out] at h1
            exact heq (Option.some.inj h1).symm
          clear heq
          go_wp2
          refine wp_region_later (by kernel_rfl) (by kernel_rfl) ?_
          repeat (go_big_quiet_step ((go_at_call 22; exact hcs.out _)))
          refine wpQuiet_nil ?_
          intro W1 hW1
          have hB1 : Below wr.heap.size wr W1 := by
            obtain ⟨X, rfl⟩ := hW1
            exact later_below wr X
          clear hW1 m0 m1
          have HB1 := Lib.hid (HB.out.trans (hB1.mono HB.out.size))
          clear hB1
          go_wp2
          go_ret
          exact ⟨ret_bool (by rw [decide_eq_false hE.out]), HB1.out⟩
      · have hE : Hid (xs.map BRow.xs = ys.map BRow.xs) := by
          have := hall.out
          have h1 := hx.len
          have h2 := hy.len
          rwa [List.take_of_length_le (by rw [List.length_map]; omega), List.take_of_length_le (by rw [List.length_map]; omega)] at this
        clear hx hy hox hoy
        go_wp2
        go_ret
        exact ⟨ret_bool (by rw [decide_eq_true hE.out]), HB.out⟩
  · have hE : Hid (¬ xs.map BRow.xs = ys.map BRow.xs) := fun e => hnm (by
      have := congrArg List.length e
      rw [List.length_map, List.length_map] at this
      rw [hx.len, hy.len, this])
    have h1 : ((n : Int) != (m : Int)) = true := by simp; omega
    clear hx hy hox hoy
    go_enter Tryd.func21, Tryd.ntmps21
    go_wp2
    go_ret
    exact ⟨ret_bool (by rw [decide_eq_false hE.out]), Below.refl _ _⟩

set_option maxRecDepth 20000 in
theorem copyb_calls (A : Option Addr) (n ca : Nat) (xs : List Int) (w : World) (hx : RdB w A n xs) (hA : A = none → ca = 0) (hn : n ≤ 10000000) :
    Calls Tryd.prog 18 #[.slice A n ca] w fun e w' => ∃ g cap, e = .returned (.slice (some ⟨g, 0, none⟩) n cap) ∧ OwnB w' w.heap.size (some ⟨g, 0, none⟩) n cap xs ∧ Below w.heap.size w w' := by
  have hlit := Own.lit 5 1 encB w w.heap.size (Nat.le_refl _)
  have hbl : Below w.heap.size w (w.alloc (.cells #[] 5)) := (Below.refl _ _).alloc (Nat.le_refl _) _
  have HX := Lib.hid (hx.below hbl)
  have HL := Lib.hid hlit
  have HB := Lib.hid hbl
  have HA := Lib.hid hA
  clear hlit hbl hx hA
  go_enter Tryd.func18, Tryd.ntmps18
  go_wp2_with (at_builtin; refine app_bytes rfl (.tmp 5) (.tmp 6) rfl rfl HL.out rfl HA.out HX.out (by omega) HB.out.size ?_; intro A' cap' w4 h1 h2 h3 h4)
  go_wp2
  go_ret
  rw [Nat.zero_add] at h1
  cases A' with
  | none => exact absurd (h4 rfl) (by simp)
  | some a' =>
    rcases h1.shape with ⟨e, _⟩ | ⟨g, e, e2, _⟩
    · cases e
    · injection e with e; subst e
      refine ⟨g, cap', rfl, h1, HB.out.trans (h2.below HB.out.size (fun i hi => by injection hi with hi; injection hi with hi; omega))⟩
end Go.Proofs.YtonghiaocpenaaaDoor
