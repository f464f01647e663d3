/-
  container/heap over a row of runs: down, up, Fix, Init, Pop.
-/
import Derived.Test.YtmabmnkdigdaiaaDoorJSwap
import Derived.Test.YtmabmnkdigdaiaaDoorJHeapL
namespace Go.Proofs.YtmabmnkdigdaiaaDoor
open Go.RowKit

theorem runless_ok : LtOk Run.less := by
  have h := ((order_is.on Run.hd).lex ((cmpI_is.on Run.turn).lex IsCmp.zero))
  have e : ∀ a b : Run, orI [a.hd.order b.hd, cmpI a.turn b.turn] = if a.hd.order b.hd = 0 then (if cmpI a.turn b.turn = 0 then 0 else cmpI a.turn b.turn) else a.hd.order b.hd := fun _ _ => rfl
  refine ⟨fun a b hab => ?_, fun a b c hab hbc => ?_⟩
  · unfold Run.less at hab ⊢
    rw [e] at hab ⊢
    have h1 := of_decide_eq_true hab
    have h2 := h.anti a b
    exact decide_eq_false (by omega)
  · unfold Run.less at hab hbc ⊢
    rw [e] at hab hbc ⊢
    have h1 := of_decide_eq_false hab
    have h2 := of_decide_eq_false hbc
    have h3 := h.anti a b
    have h4 := h.anti b c
    have h5 := h.anti a c
    have h6 := h.trans a b c
    have h7 := h6 (by omega) (by omega)
    exact decide_eq_false (by omega)

set_option maxHeartbeats 8000000 in
theorem down_calls (base bm : Nat) (A : Option Addr) (n cap i0 m : Nat) (rs : List Run) (w : World) (h : HeapAt w base bm A n cap rs) (hm : m ≤ n) (hi : i0 ≤ m) (hd : HeapFrom Run.less (i0 + 1) m rs) (hne : ∀ i r, i < m → rs[i]? = some r → r.xs ≠ []) :
    Calls Tryd.prog 38 #[.iface 59 (.pointer (some ⟨bm, 0, none⟩)), .int .i64 i0, .int .i64 m] w fun e w' => (∃ b, e = .returned (.bool b)) ∧ ∃ rs', HeapAt w' base bm A n cap rs' ∧ rs'.Perm rs ∧ rs'.drop m = rs.drop m ∧ HeapFrom Run.less i0 m rs' ∧ (∀ i r, i < m → rs'[i]? = some r → r.xs ≠ []) ∧ Only (fun k => A = some ⟨k, 0, none⟩) w w' := by
  have hfew := h.few
  have H := Lib.hid h
  have HD := Lib.hid hd
  have HN := Lib.hid hne
  clear h hd hne
  go_enter Tryd.func38, Tryd.ntmps38
  go_wp2
  go_loopw [7] (fun i wr => ∃ (k : Nat) (rs1 : List Run), i = .int .i64 k ∧ k ≤ m ∧ HeapAt wr base bm A n cap rs1 ∧ Hid (rs1.Perm rs) ∧ Hid (rs1.drop m = rs.drop m) ∧ Hid (DownInv Run.less i0 k m rs1) ∧ Hid (∀ i r, i < m → rs1[i]? = some r → r.xs ≠ []) ∧ Only (fun k => A = some ⟨k, 0, none⟩) w wr) (fun i _ => m - (intOf i).toNat)
  case atStart => exact ⟨i0, rs, rfl, hi, H.out, List.Perm.refl _, rfl, DownInv.start HD.out, HN.out, Only.refl _ _⟩
  case round =>
    obtain ⟨k, rs1, rfl, hk, hh, hpm, hdr, hinv, hnes, honly⟩ := hrel
    by_cases h1 : m ≤ 2 * k + 1
    · have e1 : (m : Int) ≤ 2 * (k : Int) + 1 := by omega
      go_wp2
      go_ret
      exact ⟨⟨_, rfl⟩, rs1, hh, hpm.out, hdr.out, hinv.out.none h1, hnes.out, honly⟩
    · have e1 : ¬ (m : Int) ≤ 2 * (k : Int) + 1 := by omega
      have e2 : ¬ 2 * (k : Int) + 1 < 0 := by omega
      have hl := Lib.hid hh.own.1
      obtain ⟨x, hx⟩ : ∃ x, rs1[k]? = some x := ⟨_, List.getElem?_eq_getElem (by have := hl.out; omega)⟩
      obtain ⟨y, hy⟩ : ∃ y, rs1[2 * k + 1]? = some y := ⟨_, List.getElem?_eq_getElem (by have := hl.out; omega)⟩
      have HX := Lib.hid hx
      have HY := Lib.hid hy
      clear hx hy
      have hml : (method 209 59 (.pointer (some ⟨bm, 0, none⟩)) "Less").run Tryd.prog wr = .ok (81, .slice A n cap) wr := meth_Less hh.head 208
      have hself : Hid (Run.less y y = false) := by
        unfold Hid
        cases e : Run.less y y with
        | false => rfl
        | true => exact e.symm.trans (runless_ok.asym _ _ e)
      by_cases h2 : 2 * k + 2 < m
      · have e3 : 2 * (k : Int) + 1 + 1 < (m : Int) := by omega
        obtain ⟨z, hz⟩ : ∃ z, rs1[2 * k + 1 + 1]? = some z := ⟨_, List.getElem?_eq_getElem (by have := hl.out; omega)⟩
        have HZ := Lib.hid hz
        clear hz
        have hselfz : Hid (Run.less z z = false) := by
          unfold Hid
          cases e : Run.less z z with
          | false => rfl
          | true => exact e.symm.trans (runless_ok.asym _ _ e)
        cases hzy : Run.less z y with
        | true =>
          have HZY := Lib.hid (runless_ok.asym _ _ hzy)
          have hleast : Hid (∀ q, 1 ≤ q → q < m → (q - 1) / 2 = k → ∀ c, rs1[q]? = some c → Run.less c z = false) := fun q g1 g2 g3 c hc => by
            rcases (by omega : q = 2 * k + 1 ∨ q = 2 * k + 1 + 1) with e | e
            · rw [e, HY.out] at hc; injection hc with hc; rw [← hc]; exact HZY.out
            · rw [e, HZ.out] at hc; injection hc with hc; rw [← hc]; exact hselfz.out
          cases hlt : Run.less z x with
          | false =>
            have HLT := Lib.hid hlt
            clear hlt
            have q1 := less_calls base bm A n cap (2 * k + 1 + 1) (2 * k + 1) rs1 z y wr hh (by omega) (by omega) HZ.out HY.out (hnes.out _ z (by omega) HZ.out) (hnes.out _ y (by omega) HY.out)
            rw [show (((2 * k + 1 + 1 : Nat)) : Int) = 2 * (k : Int) + 1 + 1 from by omega, show (((2 * k + 1 : Nat)) : Int) = 2 * (k : Int) + 1 from by omega, hzy] at q1
            have q1 := Lib.hid q1
            go_wp2_with (first | (go_at_call 81; refine (q1.out).mono ?_; clear q1; rintro e w1 ⟨rfl, hb1⟩; have hhB := hh.later hb1; have q2 := less_calls base bm A n cap (2 * k + 1 + 1) k rs1 z x w1 hhB (by omega) (by omega) HZ.out HX.out (hnes.out _ z (by omega) HZ.out) (hnes.out _ x (by omega) HX.out); rw [show (((2 * k + 1 + 1 : Nat)) : Int) = 2 * (k : Int) + 1 + 1 from by omega, HLT.out] at q2; have q2 := Lib.hid q2; have hml1 : (method 209 59 (.pointer (some ⟨bm, 0, none⟩)) "Less").run Tryd.prog w1 = .ok (81, .slice A n cap) w1 := meth_Less hhB.head 208) | (go_at_call 81; refine (q2.out).mono ?_; clear q2; rintro e w2 ⟨rfl, hb2⟩; have hh2 := hhB.later hb2))
            go_ret
            exact ⟨⟨_, rfl⟩, rs1, hh2, hpm.out, hdr.out, hinv.out.stop runless_ok HX.out HZ.out HLT.out hleast.out, hnes.out, ((honly.trans (hb1.only _)).trans (hb2.only _))⟩
          | true =>
            have HLT := Lib.hid hlt
            clear hlt
            have q1 := less_calls base bm A n cap (2 * k + 1 + 1) (2 * k + 1) rs1 z y wr hh (by omega) (by omega) HZ.out HY.out (hnes.out _ z (by omega) HZ.out) (hnes.out _ y (by omega) HY.out)
            rw [show (((2 * k + 1 + 1 : Nat)) : Int) = 2 * (k : Int) + 1 + 1 from by omega, show (((2 * k + 1 : Nat)) : Int) = 2 * (k : Int) + 1 from by omega, hzy] at q1
            have q1 := Lib.hid q1
            go_wp2_with (first | (go_at_call 81; refine (q1.out).mono ?_; clear q1; rintro e w1 ⟨rfl, hb1⟩; have hhB := hh.later hb1; have q2 := less_calls base bm A n cap (2 * k + 1 + 1) k rs1 z x w1 hhB (by omega) (by omega) HZ.out HX.out (hnes.out _ z (by omega) HZ.out) (hnes.out _ x (by omega) HX.out); rw [show (((2 * k + 1 + 1 : Nat)) : Int) = 2 * (k : Int) + 1 + 1 from by omega, HLT.out] at q2; have q2 := Lib.hid q2; have hml1 : (method 209 59 (.pointer (some ⟨bm, 0, none⟩)) "Less").run Tryd.prog w1 = .ok (81, .slice A n cap) w1 := meth_Less hhB.head 208) | (go_at_call 81; refine (q2.out).mono ?_; clear q2; rintro e w2 ⟨rfl, hb2⟩; have hh2 := hhB.later hb2; have q3 := swap_calls base bm A n cap k (2 * k + 1 + 1) rs1 x z w2 hh2 (by omega) (by omega) HX.out HZ.out; rw [show (((2 * k + 1 + 1 : Nat)) : Int) = 2 * (k : Int) + 1 + 1 from by omega] at q3; have q3 := Lib.hid q3; have hms : (method 209 59 (.pointer (some ⟨bm, 0, none⟩)) "Swap").run Tryd.prog w2 = .ok (82, .slice A n cap) w2 := meth_Swap hh2.head 208) | (go_at_call 82; refine (q3.out).mono ?_; clear q3; rintro e w3 ⟨rfl, hh3, ho3⟩))
            go_roundw
            case rel => exact ⟨2 * k + 1 + 1, _, by go_num, by omega, hh3, (swap_perm HX.out HZ.out).trans hpm.out, (swap_drop _ _ (by omega) (by omega)).trans hdr.out, hinv.out.step runless_ok (by omega) (by omega) (by omega) HX.out HZ.out HLT.out hleast.out, swap_all hnes.out HX.out HZ.out (by omega) (by omega), ((honly.trans (hb1.only _)).trans (hb2.only _)).trans ho3⟩
            case measure => simp [intOf]; omega
        | false =>
          have HZY := Lib.hid hzy
          have hleast : Hid (∀ q, 1 ≤ q → q < m → (q - 1) / 2 = k → ∀ c, rs1[q]? = some c → Run.less c y = false) := fun q g1 g2 g3 c hc => by
            rcases (by omega : q = 2 * k + 1 ∨ q = 2 * k + 1 + 1) with e | e
            · rw [e, HY.out] at hc; injection hc with hc; rw [← hc]; exact hself.out
            · rw [e, HZ.out] at hc; injection hc with hc; rw [← hc]; exact HZY.out
          cases hlt : Run.less y x with
          | false =>
            have HLT := Lib.hid hlt
            clear hlt
            have q1 := less_calls base bm A n cap (2 * k + 1 + 1) (2 * k + 1) rs1 z y wr hh (by omega) (by omega) HZ.out HY.out (hnes.out _ z (by omega) HZ.out) (hnes.out _ y (by omega) HY.out)
            rw [show (((2 * k + 1 + 1 : Nat)) : Int) = 2 * (k : Int) + 1 + 1 from by omega, show (((2 * k + 1 : Nat)) : Int) = 2 * (k : Int) + 1 from by omega, hzy] at q1
            have q1 := Lib.hid q1
            go_wp2_with (first | (go_at_call 81; refine (q1.out).mono ?_; clear q1; rintro e w1 ⟨rfl, hb1⟩; have hhB := hh.later hb1; have q2 := less_calls base bm A n cap (2 * k + 1) k rs1 y x w1 hhB (by omega) (by omega) HY.out HX.out (hnes.out _ y (by omega) HY.out) (hnes.out _ x (by omega) HX.out); rw [show (((2 * k + 1 : Nat)) : Int) = 2 * (k : Int) + 1 from by omega, HLT.out] at q2; have q2 := Lib.hid q2; have hml1 : (method 209 59 (.pointer (some ⟨bm, 0, none⟩)) "Less").run Tryd.prog w1 = .ok (81, .slice A n cap) w1 := meth_Less hhB.head 208) | (go_at_call 81; refine (q2.out).mono ?_; clear q2; rintro e w2 ⟨rfl, hb2⟩; have hh2 := hhB.later hb2))
            go_ret
            exact ⟨⟨_, rfl⟩, rs1, hh2, hpm.out, hdr.out, hinv.out.stop runless_ok HX.out HY.out HLT.out hleast.out, hnes.out, ((honly.trans (hb1.only _)).trans (hb2.only _))⟩
          | true =>
            have HLT := Lib.hid hlt
            clear hlt
            have q1 := less_calls base bm A n cap (2 * k + 1 + 1) (2 * k + 1) rs1 z y wr hh (by omega) (by omega) HZ.out HY.out (hnes.out _ z (by omega) HZ.out) (hnes.out _ y (by omega) HY.out)
            rw [show (((2 * k + 1 + 1 : Nat)) : Int) = 2 * (k : Int) + 1 + 1 from by omega, show (((2 * k + 1 : Nat)) : Int) = 2 * (k : Int) + 1 from by omega, hzy] at q1
            have q1 := Lib.hid q1
            go_wp2_with (first | (go_at_call 81; refine (q1.out).mono ?_; clear q1; rintro e w1 ⟨rfl, hb1⟩; have hhB := hh.later hb1; have q2 := less_calls base bm A n cap (2 * k + 1) k rs1 y x w1 hhB (by omega) (by omega) HY.out HX.out (hnes.out _ y (by omega) HY.out) (hnes.out _ x (by omega) HX.out); rw [show (((2 * k + 1 : Nat)) : Int) = 2 * (k : Int) + 1 from by omega, HLT.out] at q2; have q2 := Lib.hid q2; have hml1 : (method 209 59 (.pointer (some ⟨bm, 0, none⟩)) "Less").run Tryd.prog w1 = .ok (81, .slice A n cap) w1 := meth_Less hhB.head 208) | (go_at_call 81; refine (q2.out).mono ?_; clear q2; rintro e w2 ⟨rfl, hb2⟩; have hh2 := hhB.later hb2; have q3 := swap_calls base bm A n cap k (2 * k + 1) rs1 x y w2 hh2 (by omega) (by omega) HX.out HY.out; rw [show (((2 * k + 1 : Nat)) : Int) = 2 * (k : Int) + 1 from by omega] at q3; have q3 := Lib.hid q3; have hms : (method 209 59 (.pointer (some ⟨bm, 0, none⟩)) "Swap").run Tryd.prog w2 = .ok (82, .slice A n cap) w2 := meth_Swap hh2.head 208) | (go_at_call 82; refine (q3.out).mono ?_; clear q3; rintro e w3 ⟨rfl, hh3, ho3⟩))
            go_roundw
            case rel => exact ⟨2 * k + 1, _, by go_num, by omega, hh3, (swap_perm HX.out HY.out).trans hpm.out, (swap_drop _ _ (by omega) (by omega)).trans hdr.out, hinv.out.step runless_ok (by omega) (by omega) (by omega) HX.out HY.out HLT.out hleast.out, swap_all hnes.out HX.out HY.out (by omega) (by omega), ((honly.trans (hb1.only _)).trans (hb2.only _)).trans ho3⟩
            case measure => simp [intOf]; omega
      · have e3 : ¬ 2 * (k : Int) + 1 + 1 < (m : Int) := by omega
        have hleast : Hid (∀ q, 1 ≤ q → q < m → (q - 1) / 2 = k → ∀ c, rs1[q]? = some c → Run.less c y = false) := fun q g1 g2 g3 c hc => by
          have e : q = 2 * k + 1 := by omega
          rw [e, HY.out] at hc; injection hc with hc; rw [← hc]; exact hself.out
        cases hlt : Run.less y x with
        | false =>
          have hhB := hh
          have q2 := less_calls base bm A n cap (2 * k + 1) k rs1 y x wr hh (by omega) (by omega) HY.out HX.out (hnes.out _ y (by omega) HY.out) (hnes.out _ x (by omega) HX.out)
          rw [show (((2 * k + 1 : Nat)) : Int) = 2 * (k : Int) + 1 from by omega, hlt] at q2
          have q2 := Lib.hid q2
          have HLT := Lib.hid hlt
          clear hlt
          go_wp2_with (first | (go_at_call 81; refine (q2.out).mono ?_; clear q2; rintro e w2 ⟨rfl, hb2⟩; have hh2 := hhB.later hb2))
          go_ret
          exact ⟨⟨_, rfl⟩, rs1, hh2, hpm.out, hdr.out, hinv.out.stop runless_ok HX.out HY.out HLT.out hleast.out, hnes.out, (honly.trans (hb2.only _))⟩
        | true =>
          have hhB := hh
          have q2 := less_calls base bm A n cap (2 * k + 1) k rs1 y x wr hh (by omega) (by omega) HY.out HX.out (hnes.out _ y (by omega) HY.out) (hnes.out _ x (by omega) HX.out)
          rw [show (((2 * k + 1 : Nat)) : Int) = 2 * (k : Int) + 1 from by omega, hlt] at q2
          have q2 := Lib.hid q2
          have HLT := Lib.hid hlt
          clear hlt
          go_wp2_with (first | (go_at_call 81; refine (q2.out).mono ?_; clear q2; rintro e w2 ⟨rfl, hb2⟩; have hh2 := hhB.later hb2; have q3 := swap_calls base bm A n cap k (2 * k + 1) rs1 x y w2 hh2 (by omega) (by omega) HX.out HY.out; rw [show (((2 * k + 1 : Nat)) : Int) = 2 * (k : Int) + 1 from by omega] at q3; have q3 := Lib.hid q3; have hms : (method 209 59 (.pointer (some ⟨bm, 0, none⟩)) "Swap").run Tryd.prog w2 = .ok (82, .slice A n cap) w2 := meth_Swap hh2.head 208) | (go_at_call 82; refine (q3.out).mono ?_; clear q3; rintro e w3 ⟨rfl, hh3, ho3⟩))
          go_roundw
          case rel => exact ⟨2 * k + 1, _, by go_num, by omega, hh3, (swap_perm HX.out HY.out).trans hpm.out, (swap_drop _ _ (by omega) (by omega)).trans hdr.out, hinv.out.step runless_ok (by omega) (by omega) (by omega) HX.out HY.out HLT.out hleast.out, swap_all hnes.out HX.out HY.out (by omega) (by omega), (honly.trans (hb2.only _)).trans ho3⟩
          case measure => simp [intOf]; omega
end Go.Proofs.YtmabmnkdigdaiaaDoor
