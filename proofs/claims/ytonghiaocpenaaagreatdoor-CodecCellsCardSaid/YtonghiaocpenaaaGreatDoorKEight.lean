/-
  val.eight: a number's eight bytes.
-/
import Derived.Test.YtonghiaocpenaaaGreatDoorKBytes
import Derived.WalkKit
import Derived.Lib.Hide
import Derived.Deep.LoopGhost
import Derived.Outline
namespace Go.Proofs.YtonghiaocpenaaaGreatDoor
open Go.RowKit

def eightL (u : Int) : List Int := [u / 72057594037927936, u / 281474976710656 % 256, u / 1099511627776 % 256, u / 4294967296 % 256, u / 16777216 % 256, u / 65536 % 256, u / 256 % 256, u % 256]
def OutB (xs : List Int) (w : World) (e : Ending) (w' : World) : Prop := ∃ A n cap, e = .returned (.slice A n cap) ∧ OwnB w' w.heap.size A n cap xs ∧ Below w.heap.size w w'

set_option maxHeartbeats 1000000 in
theorem eight_calls (u : Int) (w : World) (h0 : 0 ≤ u) (h1 : u < 18446744073709551616) : Calls Tryz.prog 69 #[.int .u64 u] w (OutB (eightL u) w) := by
  have hown0 := Own.nil 5 1 encB w w.heap.size
  have hb0 := Below.refl w.heap.size w
  go_enter Tryz.func69, Tryz.ntmps69
  go_wp2_with fail
  go_loopg [3, 4] 8 (fun gk o s wr => ∃ (k cap : Nat) (A : Option Addr), s = .int .i64 (56 - 8 * (k : Int)) ∧ k ≤ 8 ∧ gk = 8 - k ∧ o = .slice A k cap ∧ OwnB wr w.heap.size A k cap ((eightL u).take k) ∧ Below w.heap.size w wr)
  case atStart => exact ⟨0, 0, none, rfl, by omega, rfl, rfl, hown0, hb0⟩
  case round =>
    clear hown0 hb0
    obtain ⟨k, cap, A, rfl, hk, rfl, rfl, hown, hb⟩ := hrel
    by_cases hlt : k < 8
    · have hsz := hb.size
      rcases (by omega : k = 0 ∨ k = 1 ∨ k = 2 ∨ k = 3 ∨ k = 4 ∨ k = 5 ∨ k = 6 ∨ k = 7) with rfl | rfl | rfl | rfl | rfl | rfl | rfl | rfl
      · go_wp2_with (at_builtin; refine app_byte rfl (.tmp 9) (.tmp 14) rfl _ rfl hown rfl rfl (by omega) hsz ?_; intro g cap' w5 h1 h2 h3 h4)
        have hb2 := hb.trans (h2.below hsz (own_above hown))
        go_roundg 7
        case measure => omega
        case rel => exact ⟨1, cap', some ⟨g, 0, none⟩, rfl, by omega, rfl, rfl, h1, hb2⟩
      · go_wp2_with (at_builtin; refine app_byte rfl (.tmp 9) (.tmp 14) rfl _ rfl hown rfl rfl (by omega) hsz ?_; intro g cap' w5 h1 h2 h3 h4)
        have hb2 := hb.trans (h2.below hsz (own_above hown))
        go_roundg 6
        case measure => omega
        case rel => exact ⟨2, cap', some ⟨g, 0, none⟩, rfl, by omega, rfl, rfl, h1, hb2⟩
      · go_wp2_with (at_builtin; refine app_byte rfl (.tmp 9) (.tmp 14) rfl _ rfl hown rfl rfl (by omega) hsz ?_; intro g cap' w5 h1 h2 h3 h4)
        have hb2 := hb.trans (h2.below hsz (own_above hown))
        go_roundg 5
        case measure => omega
        case rel => exact ⟨3, cap', some ⟨g, 0, none⟩, rfl, by omega, rfl, rfl, h1, hb2⟩
      · go_wp2_with (at_builtin; refine app_byte rfl (.tmp 9) (.tmp 14) rfl _ rfl hown rfl rfl (by omega) hsz ?_; intro g cap' w5 h1 h2 h3 h4)
        have hb2 := hb.trans (h2.below hsz (own_above hown))
        go_roundg 4
        case measure => omega
        case rel => exact ⟨4, cap', some ⟨g, 0, none⟩, rfl, by omega, rfl, rfl, h1, hb2⟩
      · go_wp2_with (at_builtin; refine app_byte rfl (.tmp 9) (.tmp 14) rfl _ rfl hown rfl rfl (by omega) hsz ?_; intro g cap' w5 h1 h2 h3 h4)
        have hb2 := hb.trans (h2.below hsz (own_above hown))
        go_roundg 3
        case measure => omega
        case rel => exact ⟨5, cap', some ⟨g, 0, none⟩, rfl, by omega, rfl, rfl, h1, hb2⟩
      · go_wp2_with (at_builtin; refine app_byte rfl (.tmp 9) (.tmp 14) rfl _ rfl hown rfl rfl (by omega) hsz ?_; intro g cap' w5 h1 h2 h3 h4)
        have hb2 := hb.trans (h2.below hsz (own_above hown))
        go_roundg 2
        case measure => omega
        case rel => exact ⟨6, cap', some ⟨g, 0, none⟩, rfl, by omega, rfl, rfl, h1, hb2⟩
      · go_wp2_with (at_builtin; refine app_byte rfl (.tmp 9) (.tmp 14) rfl _ rfl hown rfl rfl (by omega) hsz ?_; intro g cap' w5 h1 h2 h3 h4)
        have hb2 := hb.trans (h2.below hsz (own_above hown))
        go_roundg 1
        case measure => omega
        case rel => exact ⟨7, cap', some ⟨g, 0, none⟩, rfl, by omega, rfl, rfl, h1, hb2⟩
      · go_wp2_with (at_builtin; refine app_byte rfl (.tmp 9) (.tmp 14) rfl _ rfl hown rfl rfl (by omega) hsz ?_; intro g cap' w5 h1 h2 h3 h4)
        have hb2 := hb.trans (h2.below hsz (own_above hown))
        go_roundg 0
        case measure => omega
        case rel => exact ⟨8, cap', some ⟨g, 0, none⟩, rfl, by omega, rfl, rfl, h1, hb2⟩
    · obtain rfl : k = 8 := by omega
      go_wp2
      go_ret
      exact ⟨A, 8, cap, rfl, hown, hb⟩
end Go.Proofs.YtonghiaocpenaaaGreatDoor
