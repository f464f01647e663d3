/-
  joistref11.Right.
-/
import Derived.Test.YtideokbaenkijaaMHelp
namespace Go.Proofs.Ytideokbaenkijaa
open Go.RowKit

theorem right_false {s : StateD} (h : ¬ RightS s) : rightS s = false := by
  cases hr : rightS s with
  | false => rfl
  | true => exact absurd (right_iff.1 hr) h
/-- Tables up to a place are right, and each is there once. -/
structure TabsTo (s : StateD) (j : Nat) : Prop where
  low : ∀ i c, i < j → s.tabs[i]? = some c → 1 ≤ c ∧ c < s.next
  once : ∀ i l c d, i < j → l < i → s.tabs[i]? = some c → s.tabs[l]? = some d → d ≠ c
theorem tabs_all {s : StateD} {j : Nat} (h : TabsTo s j) (hj : s.tabs.length ≤ j) : (∀ t ∈ s.tabs, 1 ≤ t ∧ t < s.next) ∧ s.tabs.Nodup := by
  refine ⟨fun t ht => ?_, ?_⟩
  · obtain ⟨i, hi⟩ := List.getElem?_of_mem ht
    exact h.low i t (by have := (List.getElem?_eq_some_iff.1 hi).1; omega) hi
  · refine List.pairwise_iff_getElem.2 fun i l hi hl hil e => ?_
    exact h.once l i _ _ (by omega) hil (List.getElem?_eq_getElem hl) (List.getElem?_eq_getElem hi) e
theorem tabs_bad {s : StateD} (h : RightS s) (j : Nat) : TabsTo s j := by
  refine ⟨fun i c _ hc => ⟨h.low c (List.mem_of_getElem? hc), h.high c (List.mem_of_getElem? hc)⟩, fun i l c d _ hl hc hd e => ?_⟩
  subst e
  obtain ⟨h1, e1⟩ := List.getElem?_eq_some_iff.1 hc
  obtain ⟨h2, e2⟩ := List.getElem?_eq_some_iff.1 hd
  exact List.pairwise_iff_getElem.1 h.once l i h2 h1 hl (e2.trans e1.symm)

set_option maxHeartbeats 2000000 in
set_option maxRecDepth 20000 in
theorem rright_calls (s : StateD) (A : Option Addr) (k c : Nat) (w : World) (h : RdN w A k s.tabs) (hk : k ≤ 1000000000) :
    Calls Try.prog 16 #[s.v A k c] w fun e w' => e = .returned (.bool (rightS s)) ∧ Below w.heap.size w w' := by
  have HLN := Lib.hid h.len
  obtain ⟨hbx, cv⟩ := one_box w (s.cells A k c) 24
  obtain ⟨W0, hW0⟩ : ∃ W0, W0 = w.alloc (.cells #[.int .i64 s.gen, .int .i64 s.app, .int .i64 s.next, .slice A k c] 24) := ⟨_, rfl⟩
  have hbx : Below w.heap.size w W0 := by rw [hW0]; exact hbx
  have hs0 : W0.heap[w.heap.size]? = some (.cells #[.int .i64 s.gen, .int .i64 s.app, .int .i64 s.next, .slice A k c] 24) := by rw [hW0]; exact heap_alloc_new _ _
  obtain ⟨b0, b1, b2, b3, bf⟩ := box4 hs0
  have HH := Lib.hid (h.below hbx)
  have HBX := Lib.hid hbx
  have HD : Hid (∀ q, Below w.heap.size w (W0.drewN q)) := fun q => HBX.out.trans ((drewN_below W0 q).mono HBX.out.size)
  clear hbx cv h hs0
  by_cases g1 : s.gen < 1
  · have HF : Hid (rightS s = false) := right_false fun h => by have := RightS.g0 h; have := HLN.out; omega
    rw [HF.out]
    go_enter Try.func16, Try.ntmps16
    go_wp2_with fail
    go_simp
    rw [← hW0]
    go_wp2_with fail
    go_ret
    exact ⟨rfl, HBX.out⟩
  by_cases g2 : s.gen > 1099511627776
  · have HF : Hid (rightS s = false) := right_false fun h => by have := RightS.g1 h; have := HLN.out; omega
    rw [HF.out]
    go_enter Try.func16, Try.ntmps16
    go_wp2_with fail
    go_simp
    rw [← hW0]
    go_wp2_with fail
    go_ret
    exact ⟨rfl, HBX.out⟩
  by_cases a1 : s.app < 0
  · have HF : Hid (rightS s = false) := right_false fun h => by have := RightS.a0 h; have := HLN.out; omega
    rw [HF.out]
    go_enter Try.func16, Try.ntmps16
    go_wp2_with fail
    go_simp
    rw [← hW0]
    go_wp2_with fail
    go_ret
    exact ⟨rfl, HBX.out⟩
  by_cases a2 : s.app > 1099511627776
  · have HF : Hid (rightS s = false) := right_false fun h => by have := RightS.a1 h; have := HLN.out; omega
    rw [HF.out]
    go_enter Try.func16, Try.ntmps16
    go_wp2_with fail
    go_simp
    rw [← hW0]
    go_wp2_with fail
    go_ret
    exact ⟨rfl, HBX.out⟩
  by_cases n1 : s.next < 1
  · have HF : Hid (rightS s = false) := right_false fun h => by have := RightS.n0 h; have := HLN.out; omega
    rw [HF.out]
    go_enter Try.func16, Try.ntmps16
    go_wp2_with fail
    go_simp
    rw [← hW0]
    go_wp2_with fail
    go_ret
    exact ⟨rfl, HBX.out⟩
  by_cases n2 : s.next > 999999
  · have HF : Hid (rightS s = false) := right_false fun h => by have := RightS.n1 h; have := HLN.out; omega
    rw [HF.out]
    go_enter Try.func16, Try.ntmps16
    go_wp2_with fail
    go_simp
    rw [← hW0]
    go_wp2_with fail
    go_ret
    exact ⟨rfl, HBX.out⟩
  by_cases f1 : (k : Int) > 50
  · have HF : Hid (rightS s = false) := right_false fun h => by have := RightS.few h; have := HLN.out; omega
    rw [HF.out]
    go_enter Try.func16, Try.ntmps16
    go_wp2_with fail
    go_simp
    rw [← hW0]
    go_wp2_with fail
    go_ret
    exact ⟨rfl, HBX.out⟩
  have HOK : Hid (1 ≤ s.gen ∧ s.gen ≤ 1099511627776 ∧ 0 ≤ s.app ∧ s.app ≤ 1099511627776 ∧ 1 ≤ s.next ∧ s.next ≤ 999999 ∧ s.tabs.length ≤ 50) := ⟨by omega, by omega, by omega, by omega, by omega, by omega, by have := HLN.out; omega⟩
  go_enter Try.func16, Try.ntmps16
  go_wp2_with fail
  rw [← hW0]
  clear hW0
  go_loopw [3] (fun i wr => ∃ j q : Nat, j ≤ k ∧ i = .int .i64 j ∧ wr = W0.drewN q ∧ Hid (TabsTo s j)) (fun i _ => k - (intOf i).toNat)
  case atStart => exact ⟨0, 0, Nat.zero_le _, rfl, rfl, ⟨fun i c h => absurd h (Nat.not_lt_zero _), fun i l c d h => absurd h (Nat.not_lt_zero _)⟩⟩
  case round =>
    obtain ⟨j, q, hj, rfl, rfl, HTT⟩ := hrel
    by_cases hjk : j < k
    · obtain ⟨t, b, off, hc, rfl, _, h8⟩ := HH.out.get j hjk
      have t0 : W0.cell? ⟨b, off + j, none⟩ = some (.int .i64 t) := by have := h8 0 _ rfl; simpa using this
      have HC := Lib.hid hc
      clear hc h8
      by_cases ht1 : t < 1
      · have HF : Hid (rightS s = false) := right_false fun h => by have := h.low t (List.mem_of_getElem? HC.out); omega
        go_wp2
        try (go_quiet (fail); go_wp2)
        go_ret
        exact ⟨ret_bool (by rw [HF.out]), by simpa using HD.out _⟩
      by_cases ht2 : t ≥ s.next
      · have HF : Hid (rightS s = false) := right_false fun h => by have := h.high t (List.mem_of_getElem? HC.out); omega
        go_wp2
        try (go_quiet (fail); go_wp2)
        go_ret
        exact ⟨ret_bool (by rw [HF.out]), by simpa using HD.out _⟩
      go_wp2_with fail
      go_quiet (fail)
      go_wp2_with fail
      have HT1 : Hid (1 ≤ t ∧ t < s.next) := ⟨by omega, by omega⟩
      have hrj : wrap64 ((j : Int) + 1) = ((j + 1 : Nat) : Int) := by unfold wrap64; omega
      have HRJ := Lib.hid hrj
      clear hrj ht1 ht2
      go_loopw [4] (fun iv wr => ∃ l q2 : Nat, l ≤ j ∧ iv = .int .i64 l ∧ wr = W0.drewN q2 ∧ Hid (∀ b d, b < l → s.tabs[b]? = some d → d ≠ t)) (fun iv _ => j - (intOf iv).toNat)
      case atStart => exact ⟨0, _, Nat.zero_le _, rfl, by simp [World.drewN_drewN]; rfl, fun b d h => absurd h (Nat.not_lt_zero _)⟩
      case round =>
        obtain ⟨l, q2, hl, rfl, rfl, HIN⟩ := hrel
        by_cases hlj : l < j
        · obtain ⟨d, b', off', hd, e1, _, h9⟩ := HH.out.get l (by omega)
          injection e1 with e1
          injection e1 with e1 e2 _
          subst e1 e2
          have d0 : W0.cell? ⟨b, off + l, none⟩ = some (.int .i64 d) := by have := h9 0 _ rfl; simpa using this
          have HDD := Lib.hid hd
          have hlk : l < k := Nat.lt_trans hlj hjk
          clear hd h9
          by_cases hdt : d = t
          · have hq : (d == t) = true := by simpa using hdt
            have HF : Hid (rightS s = false) := right_false fun h => (tabs_bad h (j + 1)).once j l t d (Nat.lt_succ_self j) hlj HC.out HDD.out hdt
            clear hdt
            go_wp2_with fail
            go_quiet (fail)
            go_wp2_with fail
            go_ret
            exact ⟨ret_bool (by rw [HF.out]), by simpa using HD.out _⟩
          · have hq : (d == t) = false := by simpa using hdt
            have HDT := Lib.hid hdt
            clear hdt
            go_wp2_with fail
            go_quiet (fail)
            go_wp2_with fail
            go_roundw
            case rel =>
              refine ⟨l + 1, q2 + nq, hlj, by go_num, rfl, fun b d' hb hd' => ?_⟩
              rcases Nat.lt_succ_iff_lt_or_eq.1 hb with h | h
              · exact HIN.out b d' h hd'
              · subst h
                rw [HDD.out] at hd'
                injection hd' with hd'
                subst hd'
                exact HDT.out
            case measure => simp [intOf]; omega
        · have HT2 : Hid (TabsTo s (j + 1)) := by
            have hlj2 : l = j := by omega
            subst hlj2
            refine ⟨fun i c hi hc => ?_, fun i l' c d hi hl' hc hd => ?_⟩
            · rcases Nat.lt_succ_iff_lt_or_eq.1 hi with h | h
              · exact HTT.out.low i c h hc
              · subst h
                rw [HC.out] at hc
                injection hc with hc
                subst hc
                exact HT1.out
            · rcases Nat.lt_succ_iff_lt_or_eq.1 hi with h | h
              · exact HTT.out.once i l' c d h hl' hc hd
              · subst h
                rw [HC.out] at hc
                injection hc with hc
                subst hc
                exact HIN.out l' d hl' hd
          have hrj2 := HRJ.out
          go_wp2_with fail
          go_roundw
          case rel => exact ⟨j + 1, q2, hjk, by go_num, rfl, HT2.out⟩
          case measure => simp [intOf]; omega
    · have HT : Hid (rightS s = true) := right_iff.2 (by
        obtain ⟨h1, h2, h3, h4, h5, h6, h7⟩ := HOK.out
        obtain ⟨h8, h9⟩ := tabs_all HTT.out (by have := HLN.out; omega)
        exact ⟨h1, h2, h3, h4, h5, h6, h7, fun t ht => (h8 t ht).1, fun t ht => (h8 t ht).2, h9⟩)
      go_wp2
      go_ret
      exact ⟨ret_bool (by rw [HT.out]), HD.out _⟩
end Go.Proofs.Ytideokbaenkijaa
