/-
  Contract of joistref00.Texts: it compares texts as strings.Compare does.
-/
import Derived.Test.YtndmlldaebdnmaaDoorJOrder
namespace Go.Proofs.YtndmlldaebdnmaaDoor
open Go.RowKit

theorem cmp_drop (a b : ByteArray) (k : Nat) (ha : k < a.size) (hb : k < b.size) :
    Lib.compareBytes (a.data.toList.drop k) (b.data.toList.drop k) = if (a[k]).toNat < (b[k]).toNat then -1 else if (b[k]).toNat < (a[k]).toNat then 1 else Lib.compareBytes (a.data.toList.drop (k + 1)) (b.data.toList.drop (k + 1)) := by
  rw [List.drop_eq_getElem_cons (l := a.data.toList) (by simpa using ha), List.drop_eq_getElem_cons (l := b.data.toList) (by simpa using hb)]
  simp only [Lib.compareBytes, UInt8.lt_iff_toNat_lt]
  rfl
theorem cmp_end1 (a b : ByteArray) (k : Nat) (ha : a.size ≤ k) (hb : k < b.size) : Lib.compareBytes (a.data.toList.drop k) (b.data.toList.drop k) = -1 := by
  rw [List.drop_eq_nil_of_le (by simpa using ha), List.drop_eq_getElem_cons (l := b.data.toList) (by simpa using hb)]
  rfl
theorem cmp_end2 (a b : ByteArray) (k : Nat) (ha : k < a.size) (hb : b.size ≤ k) : Lib.compareBytes (a.data.toList.drop k) (b.data.toList.drop k) = 1 := by
  rw [List.drop_eq_nil_of_le (i := k) (show b.data.toList.length ≤ k by simpa using hb), List.drop_eq_getElem_cons (l := a.data.toList) (by simpa using ha)]
  rfl
theorem cmp_end3 (a b : ByteArray) (k : Nat) (ha : a.size ≤ k) (hb : b.size ≤ k) : Lib.compareBytes (a.data.toList.drop k) (b.data.toList.drop k) = 0 := by
  rw [List.drop_eq_nil_of_le (by simpa using ha), List.drop_eq_nil_of_le (by simpa using hb)]
  rfl

set_option maxHeartbeats 1000000 in
theorem texts_calls (a b : ByteArray) (w : World) (ha : a.size ≤ 140737488351232) (_ : b.size ≤ 140737488351232) : Calls Tryd.prog 28 #[.string a, .string b] w fun e w' => e = .returned (.int .i64 (cmpS a b)) ∧ ∃ q, w' = w.drewN q := by
  go_enter Tryd.func28, Tryd.ntmps28
  go_wp2
  go_loopw [5] (fun i wr => ∃ k q : Nat, k ≤ a.size ∧ k ≤ b.size ∧ i = .int .i64 k ∧ wr = w.drewN q ∧ Lib.compareBytes (a.data.toList.drop k) (b.data.toList.drop k) = cmpS a b) (fun i _ => a.size - (intOf i).toNat)
  case atStart => exact ⟨0, 0, Nat.zero_le _, Nat.zero_le _, rfl, rfl, rfl⟩
  case round =>
    obtain ⟨k, q, hk1, hk2, rfl, rfl, hor⟩ := hrel
    have Hor := Lib.hid hor
    clear hor
    by_cases h1 : k < a.size
    · by_cases h2 : k < b.size
      · have Hd := Lib.hid (cmp_drop a b k h1 h2)
        by_cases hne : (a[k]).toNat = (b[k]).toNat
        · have hn : ((a[k].toNat : Int) != (b[k].toNat : Int)) = false := by simp [hne]
          have Hne := Lib.hid hne
          clear hne
          go_wp2
          go_quiet (fail)
          go_wp2
          go_roundw
          case rel => exact ⟨k + 1, q + nq, by omega, by omega, by go_num, rfl, by rw [← Hor.out, Hd.out, if_neg (by rw [Hne.out]; omega), if_neg (by rw [Hne.out]; omega)]⟩
          case measure => simp [intOf]; omega
        · have hn : ((a[k].toNat : Int) != (b[k].toNat : Int)) = true := by simp; omega
          by_cases hlt : (a[k]).toNat < (b[k]).toNat
          · have hl : decide ((a[k].toNat : Int) < (b[k].toNat : Int)) = true := decide_eq_true (by omega)
            go_wp2
            go_quiet (fail)
            go_wp2
            go_quiet (fail)
            go_wp2
            go_ret
            exact ⟨ret_int (by rw [← Hor.out, Hd.out, if_pos hlt]), _, by rw [World.drewN_drewN, World.drewN_drewN]⟩
          · have hl : decide ((a[k].toNat : Int) < (b[k].toNat : Int)) = false := decide_eq_false (by omega)
            go_wp2
            go_quiet (fail)
            go_wp2
            go_quiet (fail)
            go_wp2
            go_ret
            exact ⟨ret_int (by rw [← Hor.out, Hd.out, if_neg hlt, if_pos (by omega)]), _, by rw [World.drewN_drewN, World.drewN_drewN]⟩
      · have e1 : b.size < a.size := by omega
        go_wp2
        go_ret
        exact ⟨ret_int (by rw [← Hor.out, cmp_end2 a b k h1 (by omega)]), _, rfl⟩
    · by_cases h2 : k < b.size
      · have e1 : a.size < b.size := by omega
        go_wp2
        go_ret
        exact ⟨ret_int (by rw [← Hor.out, cmp_end1 a b k (by omega) h2]), _, rfl⟩
      · have e1 : ¬ a.size < b.size := by omega
        have e2 : ¬ b.size < a.size := by omega
        go_wp2
        go_ret
        exact ⟨ret_int (by rw [← Hor.out, cmp_end3 a b k (by omega) (by omega)]), _, rfl⟩
end Go.Proofs.YtndmlldaebdnmaaDoor
