/-
  joistref02.Escaped, joistref02.Eight: the same bytes as the program's.
-/
import Derived.Test.YtonghiaocpenaaaGreatDoorKEnc
namespace Go.Proofs.YtonghiaocpenaaaGreatDoor
open Go.RowKit

theorem esc_take (s : ByteArray) (k : Nat) (h : k < s.size) : (s.data.toList.take (k + 1)).flatMap esc1 = (s.data.toList.take k).flatMap esc1 ++ esc1 s[k] := by
  have hk : s.data.toList[k]? = some s[k] := by
    rw [List.getElem?_eq_getElem (by simpa using h)]
    rfl
  rw [List.take_add_one, hk, List.flatMap_append]
  simp
theorem esc_take_len (s : ByteArray) (k : Nat) : ((s.data.toList.take k).flatMap esc1).length ≤ 2 * k := by
  induction k with
  | zero => simp
  | succ k ih =>
    by_cases h : k < s.size
    · rw [esc_take s k h, List.length_append]
      have : (esc1 s[k]).length ≤ 2 := by unfold esc1; split <;> simp
      omega
    · have e : s.data.toList.take (k + 1) = s.data.toList.take k := by
        rw [List.take_of_length_le (by simp; omega), List.take_of_length_le (by simp; omega)]
      rw [e]; omega

set_option maxHeartbeats 2000000 in
set_option maxRecDepth 20000 in
theorem qesc_calls (s : ByteArray) (w : World) (hs : s.size ≤ 100000) : Calls Tryz.prog 29 #[.string s] w (OutB (escL s) w) := by
  have hlit := Own.lit 5 1 encB w w.heap.size (Nat.le_refl _)
  have hbl : Below w.heap.size w (w.alloc (.cells #[] 5)) := (Below.refl _ _).alloc (Nat.le_refl _) _
  have HL := Lib.hid hlit
  have HB := Lib.hid hbl
  clear hlit hbl
  go_enter Tryz.func29, Tryz.ntmps29
  go_wp2_with fail
  go_loopw [3, 4] (fun o i wr => ∃ (k n cap : Nat) (A : Option Addr), k ≤ s.size ∧ i = .int .i64 k ∧ o = .slice A n cap ∧ n ≤ 2 * k ∧ Hid (OwnB wr w.heap.size A n cap ((s.data.toList.take k).flatMap esc1)) ∧ Hid (Below w.heap.size w wr)) (fun _ i _ => s.size - (intOf i).toNat)
  case atStart => exact ⟨0, 0, 0, _, Nat.zero_le _, rfl, rfl, by omega, HL.out, HB.out⟩
  case round =>
    obtain ⟨k, n, cap, A, hk, rfl, rfl, hn, HO, HW⟩ := hrel
    clear HL HB
    by_cases hlt : k < s.size
    · have hlt' : (k : Int) < (s.size : Int) := by omega
      have HT := Lib.hid (esc_take s k hlt)
      have hu : s[k].toNat < 256 := s[k].toNat_lt
      have hsz := HW.out.size
      by_cases h0 : s[k].toNat = 0
      · have he : Hid (esc1 s[k] = [(s[k].toNat : Int)] ++ [255]) := by
          have : s[k] = 0 := UInt8.toNat_inj.1 h0
          unfold Hid
          rw [this]; rfl
        have hb0 : ((s[k].toNat : Int) == 0) = true := by simp; omega
        have H0 := Lib.hid h0
        clear h0
        go_wp2_with (at_builtin; first
          | (refine app_byte rfl (.tmp 12) (.tmp 16) rfl _ rfl HO.out rfl rfl (by omega) hsz ?_; intro g1 cap1 w1 h1 h2 h3 h4; have hsz1 := h2.size)
          | (refine app_byte rfl (.tmp 22) (.tmp 23) rfl _ rfl h1 rfl rfl (by omega) (by omega) ?_; intro g2 cap2 w2 k1 k2 k3 k4))
        have HB1 := Lib.hid (HW.out.trans (h2.below hsz (own_above HO.out)))
        have HB2 := Lib.hid (HB1.out.trans (k2.below HB1.out.size (own_above h1)))
        have HO2 := Lib.hid k1
        clear h1 h2 h3 h4 k1 k2 k3 k4 hsz1
        go_roundw
        case rel =>
          refine ⟨k + 1, n + 1 + 1, cap2, some ⟨g2, 0, none⟩, by omega, by go_num, rfl, by omega, ?_, HB2.out⟩
          unfold Hid
          rw [HT.out, he.out, ← List.append_assoc]
          exact HO2.out
        case measure => simp [intOf]; omega
      · have he : Hid (esc1 s[k] = [(s[k].toNat : Int)]) := by
          unfold Hid esc1
          rw [if_neg (fun h => h0 (by rw [h]; rfl))]
        have hb0 : ((s[k].toNat : Int) == 0) = false := by simp; omega
        have H0 := Lib.hid h0
        clear h0
        go_wp2_with (at_builtin; refine app_byte rfl (.tmp 12) (.tmp 16) rfl _ rfl HO.out rfl rfl (by omega) hsz ?_; intro g1 cap1 w1 h1 h2 h3 h4)
        have HB1 := Lib.hid (HW.out.trans (h2.below hsz (own_above HO.out)))
        have HO1 := Lib.hid h1
        clear h1 h2 h3 h4
        go_roundw
        case rel =>
          refine ⟨k + 1, n + 1, cap1, some ⟨g1, 0, none⟩, by omega, by go_num, rfl, by omega, ?_, HB1.out⟩
          unfold Hid
          rw [HT.out, he.out]
          exact HO1.out
        case measure => simp [intOf]; omega
    · obtain rfl : k = s.size := by omega
      have hall : s.data.toList.take s.size = s.data.toList := List.take_of_length_le (by simp)
      rw [hall] at HO
      have hsz := HW.out.size
      have hb1 : Below wr.heap.size wr (wr.alloc (.cells #[.int .u8 0, .int .u8 1] 5)) := (Below.refl _ _).alloc (Nat.le_refl _) _
      have HL1 := Lib.hid (own_bytes (w := wr) (base := wr.heap.size) (cs := #[.int .u8 0, .int .u8 1]) (xs := [0, 1]) rfl (Nat.le_refl _) (by decide))
      have HO1 := Lib.hid (HO.out.below hb1)
      have HB1 := Lib.hid (HW.out.trans (hb1.mono HW.out.size))
      have hsz1 := Lib.hid HB1.out.size
      clear hb1
      go_wp2_with (at_builtin; refine app_bytes rfl (.tmp 25) (.tmp 26) rfl rfl HO1.out rfl (fun h => by cases h) (HL1.out.rd encB_len) (by simp; omega) hsz1.out ?_; intro A' cap' w4 h1 h2 h3 h4)
      go_wp2
      go_ret
      exact ⟨A', _, cap', rfl, h1, HB1.out.trans (h2.below hsz1.out (own_above HO1.out))⟩
end Go.Proofs.YtonghiaocpenaaaGreatDoor
