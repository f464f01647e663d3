/-
  container/heap over a row of runs: up at the top, Fix at the top, Init, Pop.
-/
import Derived.Test.YtmabmnkdigdaiaaDoorJDown
namespace Go.Proofs.YtmabmnkdigdaiaaDoor
open Go.RowKit

theorem up_calls (v : Value) (w : World) : Calls Tryd.prog 53 #[.iface 59 v, .int .i64 0] w fun e w' => e = .returned (.tuple #[]) ∧ w' = w := by
  go_enter Tryd.func53, Tryd.ntmps53
  go_wp2
  go_loopw [1] (fun i wr => i = .int .i64 0 ∧ wr = w) (fun _ _ => 1)
  case atStart => exact ⟨rfl, rfl⟩
  case round =>
    obtain ⟨rfl, rfl⟩ := hrel
    go_wp2
    go_end0
    exact ⟨rfl, rfl⟩

def HeapOut (base bm : Nat) (A : Option Addr) (n cap m : Nat) (rs : List Run) (w w' : World) : Prop := ∃ rs', HeapAt w' base bm A n cap rs' ∧ rs'.Perm rs ∧ rs'.drop m = rs.drop m ∧ HeapFrom Run.less 0 m rs' ∧ (∀ (i : Nat) r, i < m → rs'[i]? = some r → r.xs ≠ []) ∧ Only (fun k => A = some ⟨k, 0, none⟩) w w'

set_option maxHeartbeats 4000000 in
theorem fix_calls (base bm : Nat) (A : Option Addr) (n cap : Nat) (rs : List Run) (w : World) (h : HeapAt w base bm A n cap rs) (hd : HeapFrom Run.less 1 n rs) (hne : ∀ r ∈ rs, r.xs ≠ []) :
    Calls Tryd.prog 46 #[.iface 59 (.pointer (some ⟨bm, 0, none⟩)), .int .i64 0] w fun e w' => e = .returned (.tuple #[]) ∧ HeapOut base bm A n cap n rs w w' := by
  have q2 := down_calls base bm A n cap 0 n rs w h (Nat.le_refl _) (Nat.zero_le _) hd (fun i r _ hr => hne r (List.mem_of_getElem? hr))
  have q2 := Lib.hid q2
  have hml : (method 209 59 (.pointer (some ⟨bm, 0, none⟩)) "Len").run Tryd.prog w = .ok (80, .slice A n cap) w := meth_Len h.head 208
  clear h hd hne
  go_enter Tryd.func46, Tryd.ntmps46
  go_wp2_with (first
    | (go_at_call 80; refine (rlen_calls A n cap w).mono ?_; rintro e w1 ⟨rfl, rfl⟩)
    | (go_at_call 38; refine (q2.out).mono ?_; clear q2; rintro e w2 ⟨⟨b, rfl⟩, hh⟩; have hh := Lib.hid hh)
    | (go_at_call 53; refine (up_calls _ _).mono ?_; rintro e w3 ⟨rfl, rfl⟩))
  all_goals go_end0
  all_goals exact ⟨rfl, hh.out⟩

set_option maxHeartbeats 4000000 in
theorem init_calls (base bm : Nat) (A : Option Addr) (n cap : Nat) (rs : List Run) (w : World) (h : HeapAt w base bm A n cap rs) (hne : ∀ r ∈ rs, r.xs ≠ []) :
    Calls Tryd.prog 31 #[.iface 59 (.pointer (some ⟨bm, 0, none⟩))] w fun e w' => e = .returned (.tuple #[]) ∧ HeapOut base bm A n cap n rs w w' := by
  have hfew := h.few
  have hml : (method 209 59 (.pointer (some ⟨bm, 0, none⟩)) "Len").run Tryd.prog w = .ok (80, .slice A n cap) w := meth_Len h.head 208
  have H := Lib.hid h
  have HN := Lib.hid hne
  clear h hne
  go_enter Tryd.func31, Tryd.ntmps31
  go_wp2_with (go_at_call 80; refine (rlen_calls A n cap w).mono ?_; rintro e w1 ⟨rfl, rfl⟩)
  go_loopw [3] (fun i wr => ∃ (j : Int) (rs1 : List Run), i = .int .i64 j ∧ -1 ≤ j ∧ j ≤ (n : Int) ∧ HeapAt wr base bm A n cap rs1 ∧ Hid (rs1.Perm rs) ∧ Hid (rs1.drop n = rs.drop n) ∧ Hid (HeapFrom Run.less (j + 1).toNat n rs1) ∧ Hid (∀ (i : Nat) r, i < n → rs1[i]? = some r → r.xs ≠ []) ∧ Only (fun k => A = some ⟨k, 0, none⟩) w1 wr) (fun i _ => (intOf i + 1).toNat)
  case atStart => exact ⟨(n : Int) / 2 - 1, rs, rfl, by omega, by omega, H.out, List.Perm.refl _, rfl, HeapFrom.last (by omega), fun i r _ hr => HN.out r (List.mem_of_getElem? hr), Only.refl _ _⟩
  case round =>
    obtain ⟨j, rs1, rfl, hj, hj2, hh, hpm, hdr, hinv, hnes, honly⟩ := hrel
    by_cases h0 : 0 ≤ j
    · obtain ⟨k, rfl⟩ : ∃ k : Nat, j = k := ⟨j.toNat, by omega⟩
      have hinv' : HeapFrom Run.less (k + 1) n rs1 := by
        have := hinv.out
        rwa [show ((k : Int) + 1).toNat = k + 1 from by omega] at this
      have hkn : k ≤ n := by omega
      · have q2 := Lib.hid (down_calls base bm A n cap k n rs1 wr hh (Nat.le_refl _) hkn hinv' hnes.out)
        clear hinv'
        go_wp2_with (go_at_call 38; refine (q2.out).mono ?_; clear q2; rintro e w2 ⟨⟨b, rfl⟩, rs2, k1, k2, k3, k4, k6, k5⟩; have k2 := Lib.hid k2; have k3 := Lib.hid k3; have k4 := Lib.hid k4; have k6 := Lib.hid k6)
        go_roundw
        case rel => exact ⟨(k : Int) - 1, rs2, by go_num, by omega, by omega, k1, k2.out.trans hpm.out, k3.out.trans hdr.out, by rw [show ((k : Int) - 1 + 1).toNat = k from by omega]; exact k4.out, k6.out, honly.trans k5⟩
        case measure => simp [intOf]
    · obtain rfl : j = -1 := by omega
      go_wp2
      go_end0
      exact ⟨rfl, rs1, hh, hpm.out, hdr.out, hinv.out, hnes.out, honly⟩

set_option maxHeartbeats 4000000 in
theorem hpop_calls (base bm : Nat) (A : Option Addr) (n cap : Nat) (rs : List Run) (x : Run) (w : World) (h : HeapAt w base bm A (n + 1) cap rs) (hd : HeapFrom Run.less 1 (n + 1) rs) (hx : rs[0]? = some x) (hne : ∀ (i : Nat) r, 1 ≤ i → rs[i]? = some r → r.xs ≠ []) :
    Calls Tryd.prog 45 #[.iface 59 (.pointer (some ⟨bm, 0, none⟩))] w fun e w' => (∃ v, e = .returned v) ∧ ∃ rs', HeapAt w' base bm A n cap rs' ∧ (x :: rs').Perm rs ∧ HeapFrom Run.less 0 n rs' ∧ (∀ r ∈ rs', r.xs ≠ []) ∧ Only (fun k => k = bm ∨ A = some ⟨k, 0, none⟩) w w' := by
  have hfew := h.few
  have hl := h.own.1
  obtain ⟨y, hy⟩ : ∃ y, rs[n]? = some y := ⟨_, List.getElem?_eq_getElem (by omega)⟩
  have hml : (method 209 59 (.pointer (some ⟨bm, 0, none⟩)) "Len").run Tryd.prog w = .ok (80, .slice A (n + 1) cap) w := meth_Len h.head 208
  have hms : (method 209 59 (.pointer (some ⟨bm, 0, none⟩)) "Swap").run Tryd.prog w = .ok (82, .slice A (n + 1) cap) w := meth_Swap h.head 208
  have q1 := Lib.hid (swap_calls base bm A (n + 1) cap 0 n rs x y w h (by omega) (by omega) hx hy)
  have hdn := Lib.hid (hd.swapped hx hy)
  have HX := Lib.hid hx
  have HY := Lib.hid hy
  have hns : Hid (∀ (i : Nat) r, i < n → ((rs.set 0 y).set n x)[i]? = some r → r.xs ≠ []) := fun i r hi hr => by
    rw [swap_get hx hy, if_neg (by omega)] at hr
    split at hr
    · injection hr with hr; subst hr; exact hne n _ (by omega) hy
    · exact hne i r (by omega) hr
  have HL := Lib.hid hl
  clear h hd hx hy hl hne
  go_enter Tryd.func45, Tryd.ntmps45
  go_wp2_with (first
    | (go_at_call 80; refine (rlen_calls A (n + 1) cap w).mono ?_; rintro e w1 ⟨rfl, rfl⟩)
    | (go_at_call 82; refine (q1.out).mono ?_; clear q1; rintro e w2 ⟨rfl, hh2, ho2⟩; have q2 := Lib.hid (down_calls base bm A (n + 1) cap 0 n _ w2 hh2 (Nat.le_succ n) (Nat.zero_le _) hdn.out hns.out))
    | (go_at_call 38; refine (q2.out).mono ?_; clear q2; rintro e w3 ⟨⟨b, rfl⟩, rs3, hh3, k2, k3, k4, k6, k5⟩; have k2 := Lib.hid k2; have k3 := Lib.hid k3; have k4 := Lib.hid k4; have k6 := Lib.hid k6; have hmp : (method 209 59 (.pointer (some ⟨bm, 0, none⟩)) "Pop").run Tryd.prog w3 = .ok (83, .pointer (some ⟨bm, 0, none⟩)) w3 := meth_Pop 208; have q3 := Lib.hid (rpop_calls base bm A n cap rs3 w3 hh3))
    | (go_at_call 83; refine (q3.out).mono ?_; clear q3; rintro e w4 ⟨⟨v, rfl⟩, hh4, ho4⟩))
  go_ret
  have hl3 : rs3.length = n + 1 := hh3.own.1.symm
  refine ⟨⟨_, rfl⟩, rs3.take n, hh4, ?_, ?_, fun r hr => ?_, ((ho2.trans k5).mono (fun k _ h => .inr h)).trans (ho4.mono (fun k _ h => .inl h))⟩
  · have e1 : rs3 = rs3.take n ++ [x] := by
      have h1 := List.take_append_drop n rs3
      rw [k3.out] at h1
      have h2 : ((rs.set 0 y).set n x).drop n = [x] := by
        have h3 : ((rs.set 0 y).set n x).length = n + 1 := by simp [HL.out]
        rw [List.drop_eq_getElem_cons (by omega), List.drop_eq_nil_of_le (by omega)]
        simp
      rw [h2] at h1
      exact h1.symm
    have e2 : (rs3.take n ++ [x]).Perm rs := by
      rw [← e1]
      exact k2.out.trans (swap_perm HX.out HY.out)
    exact (List.perm_append_comm (l₁ := [x]) (l₂ := rs3.take n)).trans e2
  · have := k4.out.take (by omega)
    rwa [show (rs3.take n).length = n from by simp; omega] at this
  · obtain ⟨i, hi, hr⟩ := List.getElem_of_mem hr
    simp at hi hr
    exact k6.out i r (by omega) (by rw [List.getElem?_eq_getElem (by omega), hr])
end Go.Proofs.YtmabmnkdigdaiaaDoor
