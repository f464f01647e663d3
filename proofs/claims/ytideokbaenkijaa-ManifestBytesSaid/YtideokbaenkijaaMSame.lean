/-
  manifest.Same.
-/
import Derived.Test.YtideokbaenkijaaMEnc
namespace Go.Proofs.Ytideokbaenkijaa
open Go.RowKit

set_option maxHeartbeats 2000000 in
set_option maxRecDepth 20000 in
theorem samem_calls (s t : StateD) (A B : Option Addr) (k l c d : Nat) (w : World) (h : RdN w A k s.tabs) (h2 : RdN w B l t.tabs) (hk : k ≤ 1000000000) (hl : l ≤ 1000000000) :
    Calls Try.prog 38 #[s.v A k c, t.v B l d] w fun e w' => e = .returned (.bool (decide (s = t))) ∧ Below w.heap.size w w' := by
  obtain ⟨g1, a1, n1, ts⟩ := s
  obtain ⟨g2, a2, n2, us⟩ := t
  have hleaf : ∀ {g1 a1 n1 g2 a2 n2 : Int}, (¬ (g1 = g2 ∧ a1 = a2 ∧ n1 = n2)) → decide ((⟨g1, a1, n1, ts⟩ : StateD) = ⟨g2, a2, n2, us⟩) = false := fun hne => decide_eq_false fun e => by injection e with e1 e2 e3 _; exact hne ⟨e1, e2, e3⟩
  dsimp only [StateD.v] at *
  by_cases hg : g1 = g2
  case neg =>
    rw [hleaf fun h => hg h.1]
    have hq : (g1 == g2) = false := by simpa using hg
    obtain ⟨hbx, cv, dv⟩ := two_boxes w #[.int .i64 g1, .int .i64 a1, .int .i64 n1, .slice A k c] #[.int .i64 g2, .int .i64 a2, .int .i64 n2, .slice B l d] 29 29
    have b0 := cv 0 _ rfl
    have e0 := dv 0 _ rfl
    have HBX := Lib.hid hbx
    clear cv dv hbx h h2 hleaf
    go_enter Try.func38, Try.ntmps38
    go_wp2_with fail
    go_ret
    exact ⟨rfl, HBX.out⟩
  subst hg
  by_cases ha : a1 = a2
  case neg =>
    rw [hleaf fun h => ha h.2.1]
    have hq : (a1 == a2) = false := by simpa using ha
    obtain ⟨hbx, cv, dv⟩ := two_boxes w #[.int .i64 g1, .int .i64 a1, .int .i64 n1, .slice A k c] #[.int .i64 g1, .int .i64 a2, .int .i64 n2, .slice B l d] 29 29
    have b0 := cv 0 _ rfl
    have e0 := dv 0 _ rfl
    have b1 := cv 1 _ rfl
    have e1 := dv 1 _ rfl
    have HBX := Lib.hid hbx
    clear cv dv hbx h h2 hleaf
    go_enter Try.func38, Try.ntmps38
    go_wp2_with fail
    go_ret
    exact ⟨rfl, HBX.out⟩
  subst ha
  by_cases hn : n1 = n2
  case neg =>
    rw [hleaf fun h => hn h.2.2]
    have hq : (n1 == n2) = false := by simpa using hn
    obtain ⟨hbx, cv, dv⟩ := two_boxes w #[.int .i64 g1, .int .i64 a1, .int .i64 n1, .slice A k c] #[.int .i64 g1, .int .i64 a1, .int .i64 n2, .slice B l d] 29 29
    have b0 := cv 0 _ rfl
    have e0 := dv 0 _ rfl
    have b1 := cv 1 _ rfl
    have e1 := dv 1 _ rfl
    have b2 := cv 2 _ rfl
    have e2 := dv 2 _ rfl
    have HBX := Lib.hid hbx
    clear cv dv hbx h h2 hleaf
    go_enter Try.func38, Try.ntmps38
    go_wp2_with fail
    go_ret
    exact ⟨rfl, HBX.out⟩
  subst hn
  obtain ⟨hbx, cv, dv⟩ := two_boxes w #[.int .i64 g1, .int .i64 a1, .int .i64 n1, .slice A k c] #[.int .i64 g1, .int .i64 a1, .int .i64 n1, .slice B l d] 29 29
  have b0 := cv 0 _ rfl
  have e0 := dv 0 _ rfl
  have b1 := cv 1 _ rfl
  have e1 := dv 1 _ rfl
  have b2 := cv 2 _ rfl
  have e2 := dv 2 _ rfl
  have b3 := cv 3 _ rfl
  have e3 := dv 3 _ rfl
  have HBX := Lib.hid hbx
  have HEQ := Lib.hid (neq_calls A B k l c d ts us _ (h.below hbx) (h2.below hbx) hk hl)
  have hdec : decide ((⟨g1, a1, n1, ts⟩ : StateD) = ⟨g1, a1, n1, us⟩) = decide (ts = us) := by
    rw [Bool.eq_iff_iff]
    simp
  rw [hdec]
  clear cv dv hbx h h2 hdec hleaf
  go_enter Try.func38, Try.ntmps38
  go_wp2_with fail
  refine HEQ.out.mono ?_
  rintro e w1 ⟨rfl, hb1⟩
  have HB1 := Lib.hid (HBX.out.trans (hb1.mono HBX.out.size))
  clear hb1 HEQ
  go_wp2_with fail
  go_ret
  exact ⟨rfl, HB1.out⟩
end Go.Proofs.Ytideokbaenkijaa
