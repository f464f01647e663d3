/-
  val.Encode.
-/
import Derived.Test.YtonghiaocpenaaaGreatDoorKVal
namespace Go.Proofs.YtonghiaocpenaaaGreatDoor
open Go.RowKit

def EncV (k n : Int) (s : ByteArray) (w : World) (e : Ending) (w' : World) : Prop :=
  Below w.heap.size w w' ∧ ((valOk k n s = true ∧ ∃ A m cap, e = .returned (.tuple #[.slice A m cap, .bool true]) ∧ OwnB w' w.heap.size A m cap (valL k n s)) ∨ (valOk k n s = false ∧ e = .returned (.tuple #[.slice none 0 0, .bool false])))

set_option maxHeartbeats 4000000 in
set_option maxRecDepth 100000 in
theorem venc_calls (k n : Int) (s : ByteArray) (w : World) (hn : isInt n) (hs : s.size ≤ 140737488351232) (hT : Lib.Utf8Tabs 0 1 w) (hM : MaxAt w) :
    Calls Tryz.prog 31 #[.agg #[.int .i64 k, .int .i64 n, .string s]] w (EncV k n s w) := by
  obtain ⟨hB, cb⟩ := one_box w #[.int .i64 k, .int .i64 n, .string s] 23
  have c0 := cb 0 _ rfl
  have c1 := cb 1 _ rfl
  have c2 := cb 2 _ rfl
  have hr := vright_calls k n s (w.alloc (.cells #[.int .i64 k, .int .i64 n, .string s] 23)) hn hs (tabs_below hT hB)
  have HR := Lib.hid hr
  clear cb hr
  cases hok : valOk k n s with
  | false =>
    rw [hok] at HR
    have HB := Lib.hid hB
    have HOK := Lib.hid hok
    clear hB hok hT hM
    go_enter Tryz.func31, Tryz.ntmps31
    go_wp2_with (go_at_call 34; refine HR.out.mono ?_; rintro e w2 ⟨rfl, hb2⟩)
    go_wp2
    go_ret2
    exact ⟨HB.out.trans (hb2.mono HB.out.size), .inr ⟨HOK.out, rfl⟩⟩
  | true =>
    rw [hok] at HR
    have HOK := Lib.hid hok
    obtain ⟨hsm, hk0, hk1⟩ := val_small hok
    have hpl := plain_len k n s hok
    have hw : IntKind.u8.wrap k = k := by rw [IntKind.wrap_u8]; omega
    have hplain : ∀ W, Below w.heap.size w W → Calls Tryz.prog 51 #[.agg #[.int .i64 k, .int .i64 n, .string s]] W (OutR (plainL k n s) W) := fun W hW => plain_calls k n s W hn hok (hM.below hW)
    have HP := Lib.hid hplain
    have HB := Lib.hid hB
    clear hplain hB hok hT hM
    go_enter Tryz.func31, Tryz.ntmps31
    go_wp2_with (go_at_call 34; refine HR.out.mono ?_; rintro e w2 ⟨rfl, hb2⟩)
    have d0 := below_cell hb2 (Nat.le_refl _) c0
    have d1 := below_cell hb2 (Nat.le_refl _) c1
    have d2 := below_cell hb2 (Nat.le_refl _) c2
    have hbw := HB.out.trans (hb2.mono HB.out.size)
    have hlt := lt_of_cell d0
    clear c0 c1 c2 hb2 HB HR
    have hA : Below w.heap.size w (w2.alloc (.cells #[.int .u8 k] 5)).drew := (hbw.alloc hbw.size _).drew
    have hC : Below w.heap.size w w2.drew := hbw.drew
    have hOA : OwnB (w2.alloc (.cells #[.int .u8 k] 5)).drew w.heap.size (some ⟨w2.heap.size, 0, none⟩) 1 1 [k] := (own_bytes (base := w.heap.size) (cs := #[.int .u8 k]) (xs := [k]) rfl hbw.size (by show (1 : Nat) ≤ 1000000; omega)).below (below_drew1 _)
    have hOC : ∀ w3 : World, w2.heap.size ≤ w3.heap.size → OwnB (w3.alloc (.cells #[.int .u8 k] 5)) w.heap.size (some ⟨w3.heap.size, 0, none⟩) 1 1 [k] := fun w3 h3 => own_bytes (base := w.heap.size) (cs := #[.int .u8 k]) (xs := [k]) rfl (Nat.le_trans hbw.size h3) (by show (1 : Nat) ≤ 1000000; omega)
    have hA2 : Below w2.heap.size w2 (w2.alloc (.cells #[.int .u8 k] 5)).drew := ((Below.refl _ _).alloc (Nat.le_refl _) _).drew
    have hC2 : Below w2.heap.size w2 w2.drew := (Below.refl _ _).drew
    have HA2 := Lib.hid hA2
    have HC2 := Lib.hid hC2
    have HA := Lib.hid hA
    have HC := Lib.hid hC
    have HOA := Lib.hid hOA
    have HOC := Lib.hid hOC
    have HBW := Lib.hid hbw
    have HPL := Lib.hid hpl
    clear hA2 hC2 hA hC hOA hOC hbw hpl
    go_wp2
    go_region_law (first
      | (refine step_app_bytes rfl (.tmp 10) (.tmp 12) rfl rfl (HOA.out.below hb3) rfl hnil.out hrd.out ?_ ?_ ?_; have := hrd.out.len; have := HPL.out; omega; exact Nat.le_trans HA.out.size hb3.size; intro A' cap' w4 h1 h2 h3 h4; have h1 := Lib.hid h1; have hfin := Lib.hid (HA.out.trans ((hb3.mono HA.out.size).trans (h2.below (Nat.le_trans HA.out.size hb3.size) (fun i hi => by injection hi with hi; injection hi with hi; have := HBW.out.size; omega)))))
      | (refine step_app_bytes rfl (.tmp 10) (.tmp 12) rfl rfl (HOC.out _ hb3.size) rfl hnil.out (hrd.out.below ((Below.refl _ _).alloc (Nat.le_refl _) _)) ?_ ?_ ?_; have := hrd.out.len; have := HPL.out; omega; exact Nat.le_trans HC.out.size (Nat.le_trans hb3.size (by simp)); intro A' cap' w4 h1 h2 h3 h4; have h1 := Lib.hid h1; have hfin := Lib.hid (HC.out.trans ((hb3.mono HC.out.size).trans (((Below.refl _ _).alloc (Nat.le_trans HC.out.size hb3.size) _).trans (h2.below (Nat.le_trans HC.out.size (Nat.le_trans hb3.size (by simp))) (fun i hi => by injection hi with hi; injection hi with hi; have := HBW.out.size; have := hb3.size; have e : w2.drew.heap.size = w2.heap.size := rfl; omega))))))
      | (go_simp; go_wp2_with (go_at_call 51; refine (HP.out _ ?_).mono ?_; (first | exact HA.out | exact HC.out); rintro e w3 ⟨A, m, cap, rfl, hrd, hnil, hb3⟩; have hrd := Lib.hid hrd; have hnil := Lib.hid hnil; have hb23 : Below w2.heap.size w2 w3 := (by first | exact HA2.out.trans (hb3.mono HA2.out.size) | exact HC2.out.trans (hb3.mono HC2.out.size)); have e0 := below_cell hb23 (Nat.le_refl _) d0; have e1 := below_cell hb23 (Nat.le_refl _) d1; have e2 := below_cell hb23 (Nat.le_refl _) d2; have hlt3 := lt_of_cell e0)))
    all_goals go_wp2
    all_goals go_ret2
    all_goals exact ⟨hfin.out, .inl ⟨HOK.out, A', _, cap', rfl, by rw [show valL k n s = [k] ++ plainL k n s from rfl]; exact h1.out⟩⟩
end Go.Proofs.YtonghiaocpenaaaGreatDoor
