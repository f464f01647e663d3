/-
  Contract of joistref02.Utf8: it answers as utf8.ValidString does.
-/
import Derived.Test.YtndmlldaebdnmaaDoorJUtf
import Derived.Test.YtndmlldaebdnmaaDoorJTexts
namespace Go.Proofs.YtndmlldaebdnmaaDoor
open Go.RowKit

/-- How great a character's number is behind j - 1 further bytes. -/
def boundU (c j : Nat) : Prop := (j = 1 ∧ c ≤ 33) ∨ (j = 2 ∧ c ≤ 2200) ∨ (j = 3 ∧ c ≤ 150000) ∨ (j = 4 ∧ c ≤ 10000000)
set_option maxRecDepth 100000 in
set_option maxHeartbeats 8000000 in
theorem utf8_calls (s : ByteArray) (w : World) (hs : s.size ≤ 1000) : Calls Tryd.prog 40 #[.string s] w fun e w' => e = .returned (.bool (Lib.validD s.data.toList)) ∧ w' = w := by
  go_enter Tryd.func40, Tryd.ntmps40
  go_wp2
  go_loop [3] (fun i => ∃ k : Nat, k ≤ s.size ∧ i = .int .i64 k ∧ vfrom s k = vfrom s 0) (fun i => s.size - (intOf i).toNat)
  case atStart => exact ⟨0, Nat.zero_le _, rfl, rfl⟩
  case round =>
    obtain ⟨k, hk, rfl, hor⟩ := hrel
    have Hor := Lib.hid hor
    clear hor
    have hV : vfrom s 0 = Lib.validD s.data.toList := by
      unfold vfrom Lib.validD
      simp
    have HV := Lib.hid hV
    clear hV
    by_cases hlt : k < s.size
    · have hb := Lib.hid (by_at s k hlt)
      by_cases c0 : by_ s k < 128
      · have hc : ((s[k]).toNat : Int) < 128 := by rw [← hb.out]; omega
        go_wp2
        go_round
        case rel => exact ⟨k + 1, by omega, by go_num, by rw [← Hor.out]; exact (vfrom_step s k 1 hlt (char_ascii s k c0).1 (char_ascii s k c0).2).symm⟩
        case measure => simp [intOf]; omega
      · have hc : ¬ ((s[k]).toNat : Int) < 128 := by rw [← hb.out]; omega
        by_cases c1 : 194 ≤ by_ s k ∧ by_ s k ≤ 223
        · have hc1 : (194 : Int) ≤ ((s[k]).toNat : Int) := by rw [← hb.out]; omega
          have hc2 : ((s[k]).toNat : Int) ≤ 223 := by rw [← hb.out]; omega
          by_cases hn : k + 1 < s.size
          · have hn' : ¬ ((s.size : Int) ≤ (k : Int) + 1) := by omega
            go_wp2
            go_loop [4, 7] (fun c i => ∃ j m : Nat, 1 ≤ j ∧ j ≤ 2 ∧ i = .int .i64 j ∧ c = .int .i64 m ∧ Hid (m = accU s k (by_ s k - 192) (j - 1)) ∧ Hid (∀ q, 1 ≤ q → q < j → cont s (k + q)) ∧ Hid (boundU m j)) (fun _ i => 2 - (intOf i).toNat)
            case atStart => exact ⟨1, by_ s k - 192, by omega, by omega, rfl, by rw [hb.out]; go_num, rfl, fun q h1 h2 => by omega, .inl ⟨rfl, by omega⟩⟩
            case round =>
              obtain ⟨j, m, hj1, hj2, rfl, rfl, hacc, hcont, hbd⟩ := hrel
              have hm : m ≤ 10000000 := by have := hbd.out; unfold boundU at this; omega
              by_cases hj : j ≤ 1
              · have hkj : k + j < s.size := by omega
                have hbj := Lib.hid (by_at s (k + j) hkj)
                have hbl := Lib.hid (by_lt s (k + j))
                have hl256 : ((s[k + j]).toNat : Int) < 256 := by rw [← hbj.out]; have := hbl.out; omega
                by_cases hco : cont s (k + j)
                · have h1 : (128 : Int) ≤ ((s[k + j]).toNat : Int) := by rw [← hbj.out]; have := hco.1; omega
                  have h2 : ((s[k + j]).toNat : Int) ≤ 191 := by rw [← hbj.out]; have := hco.2; omega
                  have h3 : m ≤ 150000 := by have := hbd.out; unfold boundU at this; omega
                  have Hco := Lib.hid hco
                  clear hco
                  go_wp2
                  go_round
                  case rel =>
                    refine ⟨j + 1, m * 64 + by_ s (k + j) - 128, by omega, by omega, by go_num, ?_, ?_, ?_, ?_⟩
                    · rw [hbj.out]; go_num
                    · rw [hacc.out]
                      obtain ⟨j, rfl⟩ : ∃ t, j = t + 1 := ⟨j - 1, by omega⟩
                      rfl
                    · intro q h1 h2
                      by_cases hq : q = j
                      · rw [hq]; exact Hco.out
                      · exact hcont.out q h1 (by omega)
                    · have := hbd.out; have h9 := Hco.out.2; unfold boundU at *; unfold Hid; omega
                  case measure => simp [intOf]; omega
                · have Hf := Lib.hid (vfrom_bad s k hlt (char1_no s k c1 (fun h => hco (h.2.1 j (by omega) (by omega)))))
                  by_cases h1 : by_ s (k + j) < 128
                  · have h1' : ((s[k + j]).toNat : Int) < 128 := by rw [← hbj.out]; omega
                    go_wp2
                    go_ret
                    exact ⟨ret_bool (by rw [← HV.out, ← Hor.out, Hf.out]), rfl⟩
                  · have h1' : ¬ ((s[k + j]).toNat : Int) < 128 := by rw [← hbj.out]; omega
                    have h2' : (191 : Int) < ((s[k + j]).toNat : Int) := by
                      rw [← hbj.out]
                      have : ¬ by_ s (k + j) ≤ 191 := fun h => hco ⟨by omega, h⟩
                      omega
                    go_wp2
                    go_ret
                    exact ⟨ret_bool (by rw [← HV.out, ← Hor.out, Hf.out]), rfl⟩
              · obtain rfl : j = 2 := by omega
                have hch : goodC m 128 ↔ charU s k 1 192 128 := by
                  rw [hacc.out]
                  exact ⟨fun h => ⟨hn, fun q h1 h2 => hcont.out q h1 (by omega), h⟩, fun h => h.2.2⟩
                rw [goodC_iff] at hch
                by_cases hg : 128 ≤ m ∧ m ≤ 1114111 ∧ ¬ (55296 ≤ m ∧ m ≤ 57343)
                · have HC := char1_yes s k c1 (hch.1 hg)
                  have Hf := Lib.hid (vfrom_step s k 2 hlt HC.1 HC.2)
                  clear hch HC
                  obtain ⟨g1, g2, g3⟩ := hg
                  have e1 : ¬ ((m : Int) < 128) := by omega
                  have e2 : ¬ ((1114111 : Int) < (m : Int)) := by omega
                  by_cases g4 : m < 55296
                  · have e3 : ¬ ((55296 : Int) ≤ (m : Int)) := by omega
                    go_wp2
                    go_round
                    case rel => exact ⟨k + 2, by omega, by go_num, by rw [← Hor.out, Hf.out]⟩
                    case measure => simp [intOf]; omega
                  · have e3 : ((55296 : Int) ≤ (m : Int)) := by omega
                    have e4 : ¬ ((m : Int) ≤ 57343) := by omega
                    go_wp2
                    go_round
                    case rel => exact ⟨k + 2, by omega, by go_num, by rw [← Hor.out, Hf.out]⟩
                    case measure => simp [intOf]; omega
                · have Hf := Lib.hid (vfrom_bad s k hlt (char1_no s k c1 (fun h => hg (hch.2 h))))
                  clear hch
                  by_cases g1 : m < 128
                  · have e1 : ((m : Int) < 128) := by omega
                    go_wp2
                    go_ret
                    exact ⟨ret_bool (by rw [← HV.out, ← Hor.out, Hf.out]), rfl⟩
                  · have e1 : ¬ ((m : Int) < 128) := by omega
                    by_cases g2 : 1114111 < m
                    · have e2 : ((1114111 : Int) < (m : Int)) := by omega
                      go_wp2
                      go_ret
                      exact ⟨ret_bool (by rw [← HV.out, ← Hor.out, Hf.out]), rfl⟩
                    · have e2 : ¬ ((1114111 : Int) < (m : Int)) := by omega
                      have e3 : ((55296 : Int) ≤ (m : Int)) := by omega
                      have e4 : ((m : Int) ≤ 57343) := by omega
                      go_wp2
                      go_ret
                      exact ⟨ret_bool (by rw [← HV.out, ← Hor.out, Hf.out]), rfl⟩
          · have hn' : ((s.size : Int) ≤ (k : Int) + 1) := by omega
            have Hf := Lib.hid (vfrom_bad s k hlt (char1_no s k c1 (fun h => hn h.1)))
            go_wp2
            go_ret
            exact ⟨ret_bool (by rw [← HV.out, ← Hor.out, Hf.out]), rfl⟩
        by_cases c2 : 224 ≤ by_ s k ∧ by_ s k ≤ 239
        · have hc1 : (224 : Int) ≤ ((s[k]).toNat : Int) := by rw [← hb.out]; omega
          have hc2 : ((s[k]).toNat : Int) ≤ 239 := by rw [← hb.out]; omega
          by_cases hn : k + 2 < s.size
          · have hn' : ¬ ((s.size : Int) ≤ (k : Int) + 2) := by omega
            go_wp2
            go_loop [4, 7] (fun c i => ∃ j m : Nat, 1 ≤ j ∧ j ≤ 3 ∧ i = .int .i64 j ∧ c = .int .i64 m ∧ Hid (m = accU s k (by_ s k - 224) (j - 1)) ∧ Hid (∀ q, 1 ≤ q → q < j → cont s (k + q)) ∧ Hid (boundU m j)) (fun _ i => 3 - (intOf i).toNat)
            case atStart => exact ⟨1, by_ s k - 224, by omega, by omega, rfl, by rw [hb.out]; go_num, rfl, fun q h1 h2 => by omega, .inl ⟨rfl, by omega⟩⟩
            case round =>
              obtain ⟨j, m, hj1, hj2, rfl, rfl, hacc, hcont, hbd⟩ := hrel
              have hm : m ≤ 10000000 := by have := hbd.out; unfold boundU at this; omega
              by_cases hj : j ≤ 2
              · have hkj : k + j < s.size := by omega
                have hbj := Lib.hid (by_at s (k + j) hkj)
                have hbl := Lib.hid (by_lt s (k + j))
                have hl256 : ((s[k + j]).toNat : Int) < 256 := by rw [← hbj.out]; have := hbl.out; omega
                by_cases hco : cont s (k + j)
                · have h1 : (128 : Int) ≤ ((s[k + j]).toNat : Int) := by rw [← hbj.out]; have := hco.1; omega
                  have h2 : ((s[k + j]).toNat : Int) ≤ 191 := by rw [← hbj.out]; have := hco.2; omega
                  have h3 : m ≤ 150000 := by have := hbd.out; unfold boundU at this; omega
                  have Hco := Lib.hid hco
                  clear hco
                  go_wp2
                  go_round
                  case rel =>
                    refine ⟨j + 1, m * 64 + by_ s (k + j) - 128, by omega, by omega, by go_num, ?_, ?_, ?_, ?_⟩
                    · rw [hbj.out]; go_num
                    · rw [hacc.out]
                      obtain ⟨j, rfl⟩ : ∃ t, j = t + 1 := ⟨j - 1, by omega⟩
                      rfl
                    · intro q h1 h2
                      by_cases hq : q = j
                      · rw [hq]; exact Hco.out
                      · exact hcont.out q h1 (by omega)
                    · have := hbd.out; have h9 := Hco.out.2; unfold boundU at *; unfold Hid; omega
                  case measure => simp [intOf]; omega
                · have Hf := Lib.hid (vfrom_bad s k hlt (char2_no s k c2 (fun h => hco (h.2.1 j (by omega) (by omega)))))
                  by_cases h1 : by_ s (k + j) < 128
                  · have h1' : ((s[k + j]).toNat : Int) < 128 := by rw [← hbj.out]; omega
                    go_wp2
                    go_ret
                    exact ⟨ret_bool (by rw [← HV.out, ← Hor.out, Hf.out]), rfl⟩
                  · have h1' : ¬ ((s[k + j]).toNat : Int) < 128 := by rw [← hbj.out]; omega
                    have h2' : (191 : Int) < ((s[k + j]).toNat : Int) := by
                      rw [← hbj.out]
                      have : ¬ by_ s (k + j) ≤ 191 := fun h => hco ⟨by omega, h⟩
                      omega
                    go_wp2
                    go_ret
                    exact ⟨ret_bool (by rw [← HV.out, ← Hor.out, Hf.out]), rfl⟩
              · obtain rfl : j = 3 := by omega
                have hch : goodC m 2048 ↔ charU s k 2 224 2048 := by
                  rw [hacc.out]
                  exact ⟨fun h => ⟨hn, fun q h1 h2 => hcont.out q h1 (by omega), h⟩, fun h => h.2.2⟩
                rw [goodC_iff] at hch
                by_cases hg : 2048 ≤ m ∧ m ≤ 1114111 ∧ ¬ (55296 ≤ m ∧ m ≤ 57343)
                · have HC := char2_yes s k c2 (hch.1 hg)
                  have Hf := Lib.hid (vfrom_step s k 3 hlt HC.1 HC.2)
                  clear hch HC
                  obtain ⟨g1, g2, g3⟩ := hg
                  have e1 : ¬ ((m : Int) < 2048) := by omega
                  have e2 : ¬ ((1114111 : Int) < (m : Int)) := by omega
                  by_cases g4 : m < 55296
                  · have e3 : ¬ ((55296 : Int) ≤ (m : Int)) := by omega
                    go_wp2
                    go_round
                    case rel => exact ⟨k + 3, by omega, by go_num, by rw [← Hor.out, Hf.out]⟩
                    case measure => simp [intOf]; omega
                  · have e3 : ((55296 : Int) ≤ (m : Int)) := by omega
                    have e4 : ¬ ((m : Int) ≤ 57343) := by omega
                    go_wp2
                    go_round
                    case rel => exact ⟨k + 3, by omega, by go_num, by rw [← Hor.out, Hf.out]⟩
                    case measure => simp [intOf]; omega
                · have Hf := Lib.hid (vfrom_bad s k hlt (char2_no s k c2 (fun h => hg (hch.2 h))))
                  clear hch
                  by_cases g1 : m < 2048
                  · have e1 : ((m : Int) < 2048) := by omega
                    go_wp2
                    go_ret
                    exact ⟨ret_bool (by rw [← HV.out, ← Hor.out, Hf.out]), rfl⟩
                  · have e1 : ¬ ((m : Int) < 2048) := by omega
                    by_cases g2 : 1114111 < m
                    · have e2 : ((1114111 : Int) < (m : Int)) := by omega
                      go_wp2
                      go_ret
                      exact ⟨ret_bool (by rw [← HV.out, ← Hor.out, Hf.out]), rfl⟩
                    · have e2 : ¬ ((1114111 : Int) < (m : Int)) := by omega
                      have e3 : ((55296 : Int) ≤ (m : Int)) := by omega
                      have e4 : ((m : Int) ≤ 57343) := by omega
                      go_wp2
                      go_ret
                      exact ⟨ret_bool (by rw [← HV.out, ← Hor.out, Hf.out]), rfl⟩
          · have hn' : ((s.size : Int) ≤ (k : Int) + 2) := by omega
            have Hf := Lib.hid (vfrom_bad s k hlt (char2_no s k c2 (fun h => hn h.1)))
            go_wp2
            go_ret
            exact ⟨ret_bool (by rw [← HV.out, ← Hor.out, Hf.out]), rfl⟩
        by_cases c3 : 240 ≤ by_ s k ∧ by_ s k ≤ 244
        · have hc1 : (240 : Int) ≤ ((s[k]).toNat : Int) := by rw [← hb.out]; omega
          have hc2 : ((s[k]).toNat : Int) ≤ 244 := by rw [← hb.out]; omega
          by_cases hn : k + 3 < s.size
          · have hn' : ¬ ((s.size : Int) ≤ (k : Int) + 3) := by omega
            go_wp2
            go_loop [4, 7] (fun c i => ∃ j m : Nat, 1 ≤ j ∧ j ≤ 4 ∧ i = .int .i64 j ∧ c = .int .i64 m ∧ Hid (m = accU s k (by_ s k - 240) (j - 1)) ∧ Hid (∀ q, 1 ≤ q → q < j → cont s (k + q)) ∧ Hid (boundU m j)) (fun _ i => 4 - (intOf i).toNat)
            case atStart => exact ⟨1, by_ s k - 240, by omega, by omega, rfl, by rw [hb.out]; go_num, rfl, fun q h1 h2 => by omega, .inl ⟨rfl, by omega⟩⟩
            case round =>
              obtain ⟨j, m, hj1, hj2, rfl, rfl, hacc, hcont, hbd⟩ := hrel
              have hm : m ≤ 10000000 := by have := hbd.out; unfold boundU at this; omega
              by_cases hj : j ≤ 3
              · have hkj : k + j < s.size := by omega
                have hbj := Lib.hid (by_at s (k + j) hkj)
                have hbl := Lib.hid (by_lt s (k + j))
                have hl256 : ((s[k + j]).toNat : Int) < 256 := by rw [← hbj.out]; have := hbl.out; omega
                by_cases hco : cont s (k + j)
                · have h1 : (128 : Int) ≤ ((s[k + j]).toNat : Int) := by rw [← hbj.out]; have := hco.1; omega
                  have h2 : ((s[k + j]).toNat : Int) ≤ 191 := by rw [← hbj.out]; have := hco.2; omega
                  have h3 : m ≤ 150000 := by have := hbd.out; unfold boundU at this; omega
                  have Hco := Lib.hid hco
                  clear hco
                  go_wp2
                  go_round
                  case rel =>
                    refine ⟨j + 1, m * 64 + by_ s (k + j) - 128, by omega, by omega, by go_num, ?_, ?_, ?_, ?_⟩
                    · rw [hbj.out]; go_num
                    · rw [hacc.out]
                      obtain ⟨j, rfl⟩ : ∃ t, j = t + 1 := ⟨j - 1, by omega⟩
                      rfl
                    · intro q h1 h2
                      by_cases hq : q = j
                      · rw [hq]; exact Hco.out
                      · exact hcont.out q h1 (by omega)
                    · have := hbd.out; have h9 := Hco.out.2; unfold boundU at *; unfold Hid; omega
                  case measure => simp [intOf]; omega
                · have Hf := Lib.hid (vfrom_bad s k hlt (char3_no s k c3 (fun h => hco (h.2.1 j (by omega) (by omega)))))
                  by_cases h1 : by_ s (k + j) < 128
                  · have h1' : ((s[k + j]).toNat : Int) < 128 := by rw [← hbj.out]; omega
                    go_wp2
                    go_ret
                    exact ⟨ret_bool (by rw [← HV.out, ← Hor.out, Hf.out]), rfl⟩
                  · have h1' : ¬ ((s[k + j]).toNat : Int) < 128 := by rw [← hbj.out]; omega
                    have h2' : (191 : Int) < ((s[k + j]).toNat : Int) := by
                      rw [← hbj.out]
                      have : ¬ by_ s (k + j) ≤ 191 := fun h => hco ⟨by omega, h⟩
                      omega
                    go_wp2
                    go_ret
                    exact ⟨ret_bool (by rw [← HV.out, ← Hor.out, Hf.out]), rfl⟩
              · obtain rfl : j = 4 := by omega
                have hch : goodC m 65536 ↔ charU s k 3 240 65536 := by
                  rw [hacc.out]
                  exact ⟨fun h => ⟨hn, fun q h1 h2 => hcont.out q h1 (by omega), h⟩, fun h => h.2.2⟩
                rw [goodC_iff] at hch
                by_cases hg : 65536 ≤ m ∧ m ≤ 1114111 ∧ ¬ (55296 ≤ m ∧ m ≤ 57343)
                · have HC := char3_yes s k c3 (hch.1 hg)
                  have Hf := Lib.hid (vfrom_step s k 4 hlt HC.1 HC.2)
                  clear hch HC
                  obtain ⟨g1, g2, g3⟩ := hg
                  have e1 : ¬ ((m : Int) < 65536) := by omega
                  have e2 : ¬ ((1114111 : Int) < (m : Int)) := by omega
                  by_cases g4 : m < 55296
                  · have e3 : ¬ ((55296 : Int) ≤ (m : Int)) := by omega
                    go_wp2
                    go_round
                    case rel => exact ⟨k + 4, by omega, by go_num, by rw [← Hor.out, Hf.out]⟩
                    case measure => simp [intOf]; omega
                  · have e3 : ((55296 : Int) ≤ (m : Int)) := by omega
                    have e4 : ¬ ((m : Int) ≤ 57343) := by omega
                    go_wp2
                    go_round
                    case rel => exact ⟨k + 4, by omega, by go_num, by rw [← Hor.out, Hf.out]⟩
                    case measure => simp [intOf]; omega
                · have Hf := Lib.hid (vfrom_bad s k hlt (char3_no s k c3 (fun h => hg (hch.2 h))))
                  clear hch
                  by_cases g1 : m < 65536
                  · have e1 : ((m : Int) < 65536) := by omega
                    go_wp2
                    go_ret
                    exact ⟨ret_bool (by rw [← HV.out, ← Hor.out, Hf.out]), rfl⟩
                  · have e1 : ¬ ((m : Int) < 65536) := by omega
                    by_cases g2 : 1114111 < m
                    · have e2 : ((1114111 : Int) < (m : Int)) := by omega
                      go_wp2
                      go_ret
                      exact ⟨ret_bool (by rw [← HV.out, ← Hor.out, Hf.out]), rfl⟩
                    · have e2 : ¬ ((1114111 : Int) < (m : Int)) := by omega
                      have e3 : ((55296 : Int) ≤ (m : Int)) := by omega
                      have e4 : ((m : Int) ≤ 57343) := by omega
                      go_wp2
                      go_ret
                      exact ⟨ret_bool (by rw [← HV.out, ← Hor.out, Hf.out]), rfl⟩
          · have hn' : ((s.size : Int) ≤ (k : Int) + 3) := by omega
            have Hf := Lib.hid (vfrom_bad s k hlt (char3_no s k c3 (fun h => hn h.1)))
            go_wp2
            go_ret
            exact ⟨ret_bool (by rw [← HV.out, ← Hor.out, Hf.out]), rfl⟩
        have Hf := Lib.hid (vfrom_bad s k hlt (char_none s k (by omega) c1 c2 c3))
        by_cases g : by_ s k ≤ 193
        · have f1 : ((s[k]).toNat : Int) < 194 := by rw [← hb.out]; omega
          have f2 : ((s[k]).toNat : Int) < 224 := by rw [← hb.out]; omega
          have f3 : ((s[k]).toNat : Int) < 240 := by rw [← hb.out]; omega
          go_wp2
          go_ret
          exact ⟨ret_bool (by rw [← HV.out, ← Hor.out, Hf.out]), rfl⟩
        · have f0 : ((s[k]).toNat : Int) < 256 := by rw [← hb.out]; have := by_lt s k; omega
          have f1 : (244 : Int) < ((s[k]).toNat : Int) := by rw [← hb.out]; omega
          have f2 : (239 : Int) < ((s[k]).toNat : Int) := by rw [← hb.out]; omega
          have f3 : (223 : Int) < ((s[k]).toNat : Int) := by rw [← hb.out]; omega
          have f4 : (194 : Int) ≤ ((s[k]).toNat : Int) := by rw [← hb.out]; omega
          have f5 : (224 : Int) ≤ ((s[k]).toNat : Int) := by rw [← hb.out]; omega
          have f6 : (240 : Int) ≤ ((s[k]).toNat : Int) := by rw [← hb.out]; omega
          go_wp2
          go_ret
          exact ⟨ret_bool (by rw [← HV.out, ← Hor.out, Hf.out]), rfl⟩
    · have Hf := Lib.hid (vfrom_end s k (by omega))
      go_wp2
      go_ret
      exact ⟨ret_bool (by rw [← HV.out, ← Hor.out, Hf.out]), rfl⟩
end Go.Proofs.YtndmlldaebdnmaaDoor
