/-
  (*reader).time.
-/
import Derived.Test.YtonghiaocpenaaaGreatDoorKRText
namespace Go.Proofs.YtonghiaocpenaaaGreatDoor
open Go.RowKit

/-- The time of eight bytes. -/
def timeN (u : Int) : Int := IntKind.i64.wrap (IntKind.u64.wrap (9223372036854775807 - u))
def timeV (xs : List Int) : Option (Int × List Int) := if 8 ≤ xs.length then some (timeN (be64 (xs.take 8)), xs.drop 8) else none
def TimeOut (lim rb : Nat) (xs : List Int) (w : World) (e : Ending) (w' : World) : Prop :=
  Only (fun k => k = rb) w w' ∧ ((∃ t rest, timeV xs = some (t, rest) ∧ e = .returned (.int .i64 t) ∧ RdrAt lim rb rest w') ∨ (timeV xs = none ∧ e = .panicked badC))

set_option maxHeartbeats 2000000 in
set_option maxRecDepth 20000 in
theorem rtime_calls (lim rb : Nat) (xs : List Int) (w : World) (h : RdrAt lim rb xs w) : Calls Tryz.prog 63 #[.pointer (some ⟨rb, 0, none⟩)] w (TimeOut lim rb xs w) := by
  have HH := Lib.hid h
  have HB : Hid (Bytes xs) := by
    obtain ⟨_, _, _, _, _, _, hby, _⟩ := h
    exact hby
  clear h
  go_enter Tryz.func63, Tryz.ntmps63
  go_wp2_with fail
  go_loopg [3, 4] 8 (fun gk uv iv wr => ∃ (k : Nat) (u : Int), uv = .int .u64 u ∧ iv = .int .i64 k ∧ k ≤ 8 ∧ gk = 8 - k ∧ k ≤ xs.length ∧ Hid (RdrAt lim rb (xs.drop k) wr) ∧ Hid (Only (fun k => k = rb) w wr) ∧ Hid (u = be64 (xs.take k)))
  case atStart => exact ⟨0, 0, rfl, rfl, by omega, rfl, by omega, HH, Only.refl _ _, rfl⟩
  case round =>
    clear HH
    obtain ⟨k, u, rfl, rfl, hk, rfl, hkx, HR, HON, HU⟩ := hrel
    by_cases hlt : k < 8
    · have hk1 : (k : Int) < 8 := by omega
      go_wp2_with fail
      refine (byte_calls lim rb _ wr HR.out).mono ?_
      rintro e w2 (⟨x, r, hxr, rfl, hr2, ho2⟩ | ⟨hnil, rfl, rfl⟩)
      · have hx : xs[k]? = some x := by
          have := congrArg (fun l => l[0]?) hxr
          simpa using this
        have hr : r = xs.drop (k + 1) := by
          rw [drop_at hx] at hxr
          injection hxr with _ hxr
          exact hxr.symm
        have hkl : k + 1 ≤ xs.length := (List.getElem?_eq_some_iff.1 hx).1
        obtain ⟨x0, x1⟩ := HB.out.at hx
        have HR2 := Lib.hid hr2
        rw [hr] at HR2
        have HX := Lib.hid hx
        have HON2 := Lib.hid (HON.out.trans ho2)
        have HOR := Lib.hid (or_low' u x x0 x1)
        clear hxr hr hr2 ho2 hx
        go_wp2_with fail
        go_roundg (8 - (k + 1))
        case measure => omega
        case rel => exact ⟨k + 1, u * 256 % 18446744073709551616 + x, by rw [HOR.out], by go_num, by omega, rfl, hkl, HR2, HON2, by unfold Hid; rw [take_snoc1 HX.out, be64_snoc, HU.out]⟩
      · have hshort : xs.length ≤ k := by
          have := congrArg List.length hnil
          rw [List.length_drop, List.length_nil] at this
          omega
        exact ⟨rfl, HON.out, .inr ⟨by unfold timeV; rw [if_neg (by omega)], rfl⟩⟩
    · obtain rfl : k = 8 := by omega
      have htv : timeV xs = some (timeN u, xs.drop 8) := by unfold timeV; rw [if_pos hkx, HU.out]
      have HTV := Lib.hid htv
      have hw : wrap64 (IntKind.u64.wrap (9223372036854775807 - u)) = timeN u := by unfold timeN; rw [IntKind.wrap_i64]; unfold wrap64; rfl
      have HW := Lib.hid hw
      clear htv hw
      go_wp2_with fail
      go_ret
      exact ⟨HON.out, .inl ⟨timeN u, xs.drop 8, HTV.out, by rw [← HW.out]; rfl, HR.out⟩⟩
end Go.Proofs.YtonghiaocpenaaaGreatDoor
