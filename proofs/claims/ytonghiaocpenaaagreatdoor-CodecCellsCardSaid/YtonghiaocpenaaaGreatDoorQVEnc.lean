/-
  joistref02.Encode: a right value's bytes.
-/
import Derived.Test.YtonghiaocpenaaaGreatDoorQFloat
namespace Go.Proofs.YtonghiaocpenaaaGreatDoor
open Go.RowKit

theorem qown_nil {w : World} {base n cap : Nat} {A : Option Addr} {xs : List Int} (h : OwnB w base A n cap xs) : A = none → cap = 0 := by
  rintro rfl
  obtain ⟨h0, h1, h2 | ⟨g, cap', cur, h3, _⟩⟩ := h
  · obtain ⟨h2, _⟩ := h2
    injection h2
  · injection h3 with h3; cases h3
set_option maxHeartbeats 4000000 in
set_option maxRecDepth 100000 in
theorem qvenc_calls (k n : Int) (s : ByteArray) (w : World) (hn : isInt n) :
    Calls Tryz.prog 32 #[.agg #[.int .i64 k, .int .i64 n, .string s]] w (EncV k n s w) := by
  obtain ⟨hB, cb⟩ := one_box w #[.int .i64 k, .int .i64 n, .string s] 23
  have c0 := cb 0 _ rfl
  have c1 := cb 1 _ rfl
  have c2 := cb 2 _ rfl
  have HR := Lib.hid (r2right_calls k n s (w.alloc (.cells #[.int .i64 k, .int .i64 n, .string s] 23)))
  clear cb
  cases hok : valOk k n s with
  | false =>
    rw [hok] at HR
    have HB := Lib.hid hB
    have HOK := Lib.hid hok
    clear hB hok
    go_enter Tryz.func32, Tryz.ntmps32
    go_wp2_with (go_at_call 36; refine HR.out.mono ?_; rintro e w2 ⟨rfl, hb2⟩)
    go_wp2
    go_ret2
    exact ⟨HB.out.trans (hb2.mono HB.out.size), .inr ⟨HOK.out, rfl⟩⟩
  | true =>
    rw [hok] at HR
    have HOK := Lib.hid hok
    obtain ⟨hsm, hk0, hk1⟩ := val_small hok
    have hw : IntKind.u8.wrap k = k := by rw [IntKind.wrap_u8]; omega
    have HB := Lib.hid hB
    have HN := Lib.hid hn
    clear hB hok hn
    go_enter Tryz.func32, Tryz.ntmps32
    go_wp2_with fail
    refine HR.out.mono ?_
    rintro e w2 ⟨rfl, hb2⟩
    have e0 := below_cell hb2 (Nat.le_refl _) c0
    have e1 := below_cell hb2 (Nat.le_refl _) c1
    have e2 := below_cell hb2 (Nat.le_refl _) c2
    have HB2 := Lib.hid (HB.out.trans (hb2.mono HB.out.size))
    have hlt := lt_of_cell e0
    clear c0 c1 c2 hb2 HB HR
    have hb3 : Below w2.heap.size w2 (w2.alloc (.cells #[.int .u8 k] 5)) := (Below.refl _ _).alloc (Nat.le_refl _) _
    have HL : Hid (OwnB (w2.alloc (.cells #[.int .u8 k] 5)) w.heap.size (some ⟨w2.heap.size, 0, none⟩) 1 1 [k]) := own_bytes (base := w.heap.size) (cs := #[.int .u8 k]) (xs := [k]) rfl HB2.out.size (by show (1 : Nat) ≤ 1000000; omega)
    have HB3 := Lib.hid (HB2.out.trans (hb3.mono HB2.out.size))
    have d0 := below_cell hb3 (Nat.le_refl _) e0
    have d1 := below_cell hb3 (Nat.le_refl _) e1
    have d2 := below_cell hb3 (Nat.le_refl _) e2
    clear hb3
    by_cases k1 : k = 1
    · subst k1
      have hn' := HN.out
      unfold isInt at hn'
      have hv : IntKind.u64.wrap (IntKind.u64.wrap n + 9223372036854775808) = n + 9223372036854775808 := by rw [IntKind.wrap_u64, IntKind.wrap_u64]; omega
      have hq0 : 0 ≤ n + 9223372036854775808 := by omega
      have hq1 : n + 9223372036854775808 < 18446744073709551616 := by omega
      clear hn'
      go_wp2_with fail
      refine (qeight_calls (n + 9223372036854775808) _ hq0 hq1).mono ?_
      rintro e w4 ⟨A3, m3, cap3, rfl, hown3, hb4⟩
      have HO3 := Lib.hid hown3
      have HL4 := Lib.hid (HL.out.below hb4)
      have HB4 := Lib.hid (HB3.out.trans (hb4.mono HB3.out.size))
      have HSZ := Lib.hid HB4.out.size
      have HNL := Lib.hid (qown_nil hown3)
      have hm3 : m3 ≤ 1000 := by
        have h1 := hown3.1
        have h2 : (eightL (n + 9223372036854775808)).length = 8 := rfl
        omega
      clear hown3 hb4 d0 d1 d2 HL HB3
      go_wp2_with (at_builtin; refine app_bytes rfl (.tmp 16) (.tmp 21) rfl rfl HL4.out rfl HNL.out (HO3.out.rd encB_len) (by omega) HSZ.out ?_; intro A5 cap5 w5 h1 h2 h3 h4)
      go_wp2
      go_ret2
      exact ⟨HB4.out.trans (h2.below HSZ.out (own_above HL4.out)), .inl ⟨HOK.out, A5, _, cap5, rfl, by exact h1⟩⟩
    by_cases k5 : k = 5
    · subst k5
      have hf : floatOk n = true := by
        have := HOK.out
        unfold valOk at this
        rw [if_neg (by decide), if_neg (by decide), if_pos rfl] at this
        exact (Bool.and_eq_true _ _ ▸ this).2
      have HF := Lib.hid hf
      clear hf
      go_wp2_with fail
      refine (qfloat_calls n _ HN.out HF.out).mono ?_
      rintro e w4 ⟨A3, m3, cap3, rfl, hown3, hb4⟩
      have HO3 := Lib.hid hown3
      have HL4 := Lib.hid (HL.out.below hb4)
      have HB4 := Lib.hid (HB3.out.trans (hb4.mono HB3.out.size))
      have HSZ := Lib.hid HB4.out.size
      have HNL := Lib.hid (qown_nil hown3)
      have hm3 : m3 ≤ 1000 := by
        have h1 := hown3.1
        have h2 : (eightL (rankN (n % 18446744073709551616))).length = 8 := rfl
        omega
      clear hown3 hb4 d0 d1 d2 HL HB3
      go_wp2_with (at_builtin; refine app_bytes rfl (.tmp 25) (.tmp 28) rfl rfl HL4.out rfl HNL.out (HO3.out.rd encB_len) (by omega) HSZ.out ?_; intro A5 cap5 w5 h1 h2 h3 h4)
      go_wp2
      go_ret2
      exact ⟨HB4.out.trans (h2.below HSZ.out (own_above HL4.out)), .inl ⟨HOK.out, A5, _, cap5, rfl, by exact h1⟩⟩
    by_cases k4 : k = 4
    · subst k4
      have h01 : n = 0 ∨ n = 1 := by
        have hv := HOK.out
        unfold valOk at hv
        rw [if_neg (by decide), if_pos rfl] at hv
        simp only [Bool.and_eq_true, Bool.or_eq_true, beq_iff_eq] at hv
        exact hv.2
      have hwn : IntKind.u8.wrap n = n := by rw [IntKind.wrap_u8]; omega
      have HSZ := Lib.hid HB3.out.size
      clear h01
      go_wp2_with (at_builtin; refine app_byte rfl (.tmp 32) (.tmp 36) rfl _ rfl HL.out (by simp) rfl (by omega) HSZ.out ?_; intro g5 cap5 w5 h1 h2 h3 h4)
      go_wp2
      go_ret2
      exact ⟨HB3.out.trans (h2.below HSZ.out (own_above HL.out)), .inl ⟨HOK.out, some ⟨g5, 0, none⟩, 2, cap5, rfl, by exact h1⟩⟩
    have k23 : Hid (plainL k n s = escL s) := by unfold Hid plainL; rw [if_neg k1, if_neg k5, if_neg k4]
    have hss : s.size ≤ 100000 := by omega
    go_wp2_with fail
    refine (qesc_calls s _ hss).mono ?_
    rintro e w4 ⟨A3, m3, cap3, rfl, hown3, hb4⟩
    have HO3 := Lib.hid hown3
    have HL4 := Lib.hid (HL.out.below hb4)
    have HB4 := Lib.hid (HB3.out.trans (hb4.mono HB3.out.size))
    have HSZ := Lib.hid HB4.out.size
    have HNL := Lib.hid (qown_nil hown3)
    have hm3 : m3 ≤ 1000 := by
      have h1 := hown3.1
      have h2 := esc_size s
      omega
    clear hown3 hb4 d0 d1 d2 HL HB3
    go_wp2_with (at_builtin; refine app_bytes rfl (.tmp 38) (.tmp 41) rfl rfl HL4.out rfl HNL.out (HO3.out.rd encB_len) (by omega) HSZ.out ?_; intro A5 cap5 w5 h1 h2 h3 h4)
    go_wp2
    go_ret2
    exact ⟨HB4.out.trans (h2.below HSZ.out (own_above HL4.out)), .inl ⟨HOK.out, A5, _, cap5, rfl, by unfold valL; rw [k23.out]; exact h1⟩⟩
end Go.Proofs.YtonghiaocpenaaaGreatDoor
