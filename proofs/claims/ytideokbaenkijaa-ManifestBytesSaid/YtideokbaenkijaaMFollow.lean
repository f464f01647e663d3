/-
  manifest.follows.
-/
import Derived.Test.YtideokbaenkijaaMLoad
namespace Go.Proofs.Ytideokbaenkijaa
open Go.RowKit Go.Maps

theorem bytesS_bytes {s : StateD} : Bytes (bytesS s) := by
  intro x hx
  unfold bytesS vlqs at hx
  obtain ⟨n, _, h⟩ := List.mem_flatMap.1 hx
  exact vlq_bytes _ x h
/-- What follows answers. -/
def FollowOut (xs : List Int) (s : StateD) (w : World) (e : Ending) (w' : World) : Prop := Below w.heap.size w w' ∧ (
  (rightS s = false ∧ e = .returned (.tuple #[.slice none 0 0, .int .i64 0, .int .i64 10])) ∨ (rightS s = true ∧ (
  (readS xs = none ∧ e = .returned (.tuple #[.slice none 0 0, .int .i64 0, .int .i64 20])) ∨ ∃ old n, readS xs = some (old, n) ∧ (
  (0 < old.gen ∧ s.gen ≠ old.gen + 1 ∧ e = .returned (.tuple #[.slice none 0 0, .int .i64 0, .int .i64 10])) ∨
  (¬ (0 < old.gen ∧ s.gen ≠ old.gen + 1) ∧ n ≤ xs.length ∧ ∃ B m cap, e = .returned (.tuple #[.slice B m cap, .int .i64 n, .int .i64 0]) ∧ OwnB w' w.heap.size B m cap (frameL (bytesS s)))))))

theorem readS_gen {xs : List Int} {s : StateD} {n : Nat} (h : readS xs = some (s, n)) : s = firstS ∨ rightS s = true := by
  have hg : ∀ (fs : List (List Int)) (f : Bool) (last t : StateD), readGo f last fs = some t → t = last ∨ rightS t = true := by
    intro fs
    induction fs with
    | nil => intro f last t h; injection h with h; exact .inl h.symm
    | cons x fs ih =>
      intro f last t h
      rw [readGo] at h
      cases hd : decS x with
      | none => rw [hd] at h; cases h
      | some q =>
        rw [hd] at h
        simp only at h
        split at h
        · cases h
        · rcases ih _ _ _ h with rfl | h
          · exact .inr (decS_gen hd)
          · exact .inr h
  unfold readS at h
  split at h
  · cases h
  · obtain ⟨t, h1, h2⟩ := Option.map_eq_some_iff.1 h
    injection h2 with h2 _
    subst h2
    exact hg _ _ _ _ h1
set_option maxHeartbeats 1000000 in
set_option maxRecDepth 20000 in
theorem follows_calls (A : Option Addr) (n cap : Nat) (xs : List Int) (s : StateD) (T : Option Addr) (k c : Nat) (w : World) (hx : RdB w A n xs) (hb : Bytes xs) (hn : n ≤ 1000000) (hcap : n ≤ cap) (hcm : cap ≤ maxLen) (h : RdN w T k s.tabs) (hT : T = none → c = 0) (hk : k ≤ 1000000000) :
    Calls Try.prog 43 #[.slice A n cap, s.v T k c] w (FollowOut xs s w) := by
  obtain ⟨hbx, cv⟩ := one_box w (s.cells T k c) 29
  obtain ⟨W0, hW0⟩ : ∃ W0, W0 = w.alloc (.cells #[.int .i64 s.gen, .int .i64 s.app, .int .i64 s.next, .slice T k c] 29) := ⟨_, rfl⟩
  have hbx : Below w.heap.size w W0 := by rw [hW0]; exact hbx
  have HEN := Lib.hid (encm_calls s T k c W0 (h.below hbx) hT hk)
  have HX := Lib.hid (hx.below hbx)
  have HBY := Lib.hid hb
  have HBX := Lib.hid hbx
  have HC := Lib.hid hcap
  have HM := Lib.hid hcm
  have hs0 : W0.heap[w.heap.size]? = some (.cells #[.int .i64 s.gen, .int .i64 s.app, .int .i64 s.next, .slice T k c] 29) := by rw [hW0]; exact heap_alloc_new _ _
  obtain ⟨b0, b1, b2, b3, bf⟩ := box4 hs0
  have HS0 := Lib.hid hs0
  have HWZ : Hid (w.heap.size < W0.heap.size) := by unfold Hid; rw [hW0]; simp
  clear hx hb hbx cv h hT hs0 hcap hcm
  go_enter Try.func43, Try.ntmps43
  go_wp2_with fail
  rw [← hW0]
  clear hW0
  refine HEN.out.mono ?_
  rintro e w1 ⟨hb1, ⟨hrs, rfl⟩ | ⟨hrs, B, m, fc, rfl, hown⟩⟩
  · have HB1 := Lib.hid (HBX.out.trans (hb1.mono HBX.out.size))
    have HRS := Lib.hid hrs
    clear hb1 hrs HEN
    go_wp2_with fail
    go_ret3
    exact ⟨HB1.out, .inl ⟨HRS.out, rfl⟩⟩
  have HRS := Lib.hid hrs
  have HB1 := Lib.hid hb1
  have HOW := Lib.hid hown
  have HRD := Lib.hid (readm_calls A n cap xs w1 (HX.out.below hb1) HBY.out hn HC.out HM.out)
  clear hb1 hrs hown HEN HX
  go_wp2_with fail
  refine HRD.out.mono ?_
  rintro e w2 ⟨hb2, ⟨hn, rfl⟩ | ⟨old, m2, B2, k2, c2, hs2, hm2, rfl, hrd2, hB2, hk2, hbb2⟩⟩
  · have HB2 := Lib.hid (HBX.out.trans ((HB1.out.trans (hb2.mono HB1.out.size)).mono HBX.out.size) |>.alloc (Nat.le_trans HBX.out.size (Nat.le_trans HB1.out.size hb2.size)) (.cells #[.int .i64 zeroS.gen, .int .i64 zeroS.app, .int .i64 zeroS.next, .slice none 0 0] 29))
    have HN := Lib.hid hn
    clear hb2 hn HRD
    go_wp2_with fail
    go_ret3
    exact ⟨HB2.out, .inr ⟨HRS.out, .inl ⟨HN.out, rfl⟩⟩⟩
  have hba : Below w2.heap.size w2 (w2.alloc (.cells #[.int .i64 old.gen, .int .i64 old.app, .int .i64 old.next, .slice B2 k2 c2] 29)) := (Below.refl _ _).alloc (Nat.le_refl _) _
  have hlt1 : w.heap.size < w1.heap.size := Nat.lt_of_lt_of_le HWZ.out HB1.out.size
  have hs3 : (w2.alloc (.cells #[.int .i64 old.gen, .int .i64 old.app, .int .i64 old.next, .slice B2 k2 c2] 29)).heap[w.heap.size]? = some (.cells #[.int .i64 s.gen, .int .i64 s.app, .int .i64 s.next, .slice T k c] 29) := (hba.block _ (Nat.lt_of_lt_of_le hlt1 hb2.size)).trans ((hb2.block _ hlt1).trans ((HB1.out.block _ HWZ.out).trans HS0.out))
  have ho3 := heap_alloc_new w2 (.cells #[.int .i64 old.gen, .int .i64 old.app, .int .i64 old.next, .slice B2 k2 c2] 29)
  obtain ⟨o0, _, _, _, _⟩ := box4 ho3
  obtain ⟨p0, _, _, _, _⟩ := box4 hs3
  have HB2 := Lib.hid (HB1.out.trans (hb2.mono HB1.out.size))
  have HOW2 := Lib.hid ((HOW.out.below hb2).below hba)
  have HSX := Lib.hid hs2
  have HM2 := Lib.hid hm2
  have hog := readS_gen hs2
  have hwg : wrap64 (old.gen + 1) = old.gen + 1 := by
    rcases hog with rfl | hr
    · unfold firstS wrap64; decide
    · have := (right_iff.1 hr).g0; have := (right_iff.1 hr).g1; unfold wrap64; omega
  obtain ⟨g1, hg1⟩ : ∃ g1, g1 = old.gen + 1 := ⟨_, rfl⟩
  have hwg2 : wrap64 (old.gen + 1) = g1 := hwg.trans hg1.symm
  have HG1 := Lib.hid hg1
  have HB3 := Lib.hid (HBX.out.trans ((HB2.out.trans (hba.mono HB2.out.size)).mono HBX.out.size))
  have HZ3 := Lib.hid (Nat.le_trans HBX.out.size HB2.out.size)
  clear hb2 hba hlt1 hs3 ho3 hs2 hm2 hrd2 hB2 hk2 hbb2 hog hwg hg1 HRD HOW HB1 HS0 HWZ HBX
  by_cases h0 : 0 < old.gen
  · have h0' : old.gen > 0 := h0
    by_cases hq : s.gen = g1
    · have hq2 : (s.gen != g1) = false := by simp [hq]
      have HNB : Hid (¬ (0 < old.gen ∧ s.gen ≠ old.gen + 1)) := fun h => h.2 (hq.trans HG1.out)
      have hml := HOW2.out.1
      have HFR := Lib.hid (frame_calls B m fc (bytesS s) (w2.alloc (.cells #[.int .i64 old.gen, .int .i64 old.app, .int .i64 old.next, .slice B2 k2 c2] 29)) (HOW2.out.rd encB_len) (own_nil_cap HOW2.out) bytesS_bytes (by have := bytesS_len HRS.out; omega))
      clear hq hml h0
      go_wp2_with fail
      refine HFR.out.mono ?_
      rintro e w4 ⟨B4, m4, c4, rfl, h4, hb4⟩
      have HB4 := Lib.hid (HB3.out.trans (hb4.mono HB3.out.size))
      have H4 := Lib.hid (h4.lower HB3.out.size)
      clear hb4 h4 HFR
      go_wp2_with fail
      go_ret3
      exact ⟨HB4.out, .inr ⟨HRS.out, .inr ⟨old, m2, HSX.out, .inr ⟨HNB.out, HM2.out, B4, m4, c4, rfl, H4.out⟩⟩⟩⟩
    · have hq2 : (s.gen != g1) = true := by simpa using hq
      have HNB : Hid (0 < old.gen ∧ s.gen ≠ old.gen + 1) := ⟨h0, fun h => hq (h.trans HG1.out.symm)⟩
      clear hq h0
      go_wp2_with fail
      go_ret3
      exact ⟨HB3.out, .inr ⟨HRS.out, .inr ⟨old, m2, HSX.out, .inl ⟨HNB.out.1, HNB.out.2, rfl⟩⟩⟩⟩
  · have h0' : ¬ old.gen > 0 := h0
    have HNB : Hid (¬ (0 < old.gen ∧ s.gen ≠ old.gen + 1)) := fun h => h0 h.1
    have hml := HOW2.out.1
    have HFR := Lib.hid (frame_calls B m fc (bytesS s) (w2.alloc (.cells #[.int .i64 old.gen, .int .i64 old.app, .int .i64 old.next, .slice B2 k2 c2] 29)) (HOW2.out.rd encB_len) (own_nil_cap HOW2.out) bytesS_bytes (by have := bytesS_len HRS.out; omega))
    clear hml h0
    go_wp2_with fail
    refine HFR.out.mono ?_
    rintro e w4 ⟨B4, m4, c4, rfl, h4, hb4⟩
    have HB4 := Lib.hid (HB3.out.trans (hb4.mono HB3.out.size))
    have H4 := Lib.hid (h4.lower HB3.out.size)
    clear hb4 h4 HFR
    go_wp2_with fail
    go_ret3
    exact ⟨HB4.out, .inr ⟨HRS.out, .inr ⟨old, m2, HSX.out, .inr ⟨HNB.out, HM2.out, B4, m4, c4, rfl, H4.out⟩⟩⟩⟩
end Go.Proofs.Ytideokbaenkijaa
