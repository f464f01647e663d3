/-
  joistref00.SameBytes, SameInts, CopyInts, joistref11.Same, joistlaw11.of, back, same.
-/
import Derived.Test.YtideokbaenkijaaMSave
namespace Go.Proofs.Ytideokbaenkijaa
open Go.RowKit

set_option maxHeartbeats 1000000 in
theorem sameb_calls (A B : Option Addr) (n m ca cb : Nat) (xs ys : List Int) (w : World) (hx : RdB w A n xs) (hy : RdB w B m ys) (hn : n ≤ 100000000) (hm : m ≤ 100000000) :
    Calls Try.prog 17 #[.slice A n ca, .slice B m cb] w fun e w' => e = .returned (.bool (decide (xs = ys))) ∧ ∃ q, w' = w.drewN q := by
  by_cases hnm : n = m
  · subst hnm
    go_enter Try.func17, Try.ntmps17
    go_wp2
    go_loopw [5] (fun i wr => ∃ k q : Nat, k ≤ n ∧ i = .int .i64 k ∧ wr = w.drewN q ∧ Hid (xs.take k = ys.take k)) (fun i _ => n - (intOf i).toNat)
    case atStart => exact ⟨0, 0, Nat.zero_le _, rfl, rfl, rfl⟩
    case round =>
      obtain ⟨k, q, hk, rfl, rfl, hall⟩ := hrel
      by_cases hlt : k < n
      · obtain ⟨c, b, off, hc, rfl, _, hk8⟩ := hx.get k hlt
        obtain ⟨d, b', off', hd, rfl, _, hl8⟩ := hy.get k hlt
        have k0 : w.cell? ⟨b, off + k, none⟩ = some (.int .u8 c) := by have := hk8 0 _ rfl; simpa using this
        have l0 : w.cell? ⟨b', off' + k, none⟩ = some (.int .u8 d) := by have := hl8 0 _ rfl; simpa using this
        clear hk8 hl8
        have HX := Lib.hid hx
        have HY := Lib.hid hy
        have HC := Lib.hid hc
        have HD := Lib.hid hd
        clear hx hy hc hd
        by_cases heq : c = d
        · have hn : (c != d) = false := by simp [heq]
          have hE := Lib.hid heq
          clear heq
          go_wp2
          go_quiet (fail)
          go_wp2
          go_roundw
          case rel =>
            refine ⟨k + 1, q + nq, by omega, by go_num, rfl, ?_⟩
            have := hall.out
            show xs.take (k + 1) = ys.take (k + 1)
            rw [List.take_add_one, List.take_add_one, HC.out, HD.out, this, hE.out]
          case measure => simp [intOf]; omega
        · have hn : (c != d) = true := by simp [heq]
          have hE : Hid (¬ xs = ys) := fun e => by
            have h1 := HC.out
            rw [e, HD.out] at h1
            exact heq (Option.some.inj h1).symm
          clear heq
          go_wp2
          go_quiet (fail)
          go_wp2
          go_ret
          exact ⟨ret_bool (by rw [decide_eq_false hE.out]), _, by rw [World.drewN_drewN]⟩
      · have hE : Hid (xs = ys) := by
          have := hall.out
          have h1 := hx.len
          have h2 := hy.len
          rwa [List.take_of_length_le (by omega), List.take_of_length_le (by omega)] at this
        clear hx hy
        go_wp2
        go_ret
        exact ⟨ret_bool (by rw [decide_eq_true hE.out]), _, rfl⟩
  · have hE : Hid (¬ xs = ys) := fun e => hnm (by rw [hx.len, hy.len, e])
    have h1 : ((n : Int) != (m : Int)) = true := by simp; omega
    clear hx hy
    go_enter Try.func17, Try.ntmps17
    go_wp2
    go_ret
    exact ⟨ret_bool (by rw [decide_eq_false hE.out]), 0, rfl⟩

set_option maxHeartbeats 1000000 in
theorem samei_calls (A B : Option Addr) (n m ca cb : Nat) (xs ys : List Int) (w : World) (hx : RdN w A n xs) (hy : RdN w B m ys) (hn : n ≤ 100000000) (hm : m ≤ 100000000) :
    Calls Try.prog 55 #[.slice A n ca, .slice B m cb] w fun e w' => e = .returned (.bool (decide (xs = ys))) ∧ ∃ q, w' = w.drewN q := by
  by_cases hnm : n = m
  · subst hnm
    go_enter Try.func55, Try.ntmps55
    go_wp2
    go_loopw [5] (fun i wr => ∃ k q : Nat, k ≤ n ∧ i = .int .i64 k ∧ wr = w.drewN q ∧ Hid (xs.take k = ys.take k)) (fun i _ => n - (intOf i).toNat)
    case atStart => exact ⟨0, 0, Nat.zero_le _, rfl, rfl, rfl⟩
    case round =>
      obtain ⟨k, q, hk, rfl, rfl, hall⟩ := hrel
      by_cases hlt : k < n
      · obtain ⟨c, b, off, hc, rfl, _, hk8⟩ := hx.get k hlt
        obtain ⟨d, b', off', hd, rfl, _, hl8⟩ := hy.get k hlt
        have k0 : w.cell? ⟨b, off + k, none⟩ = some (.int .i64 c) := by have := hk8 0 _ rfl; simpa using this
        have l0 : w.cell? ⟨b', off' + k, none⟩ = some (.int .i64 d) := by have := hl8 0 _ rfl; simpa using this
        clear hk8 hl8
        have HX := Lib.hid hx
        have HY := Lib.hid hy
        have HC := Lib.hid hc
        have HD := Lib.hid hd
        clear hx hy hc hd
        by_cases heq : c = d
        · have hn : (c != d) = false := by simp [heq]
          have hE := Lib.hid heq
          clear heq
          go_wp2
          go_quiet (fail)
          go_wp2
          go_roundw
          case rel =>
            refine ⟨k + 1, q + nq, by omega, by go_num, rfl, ?_⟩
            have := hall.out
            show xs.take (k + 1) = ys.take (k + 1)
            rw [List.take_add_one, List.take_add_one, HC.out, HD.out, this, hE.out]
          case measure => simp [intOf]; omega
        · have hn : (c != d) = true := by simp [heq]
          have hE : Hid (¬ xs = ys) := fun e => by
            have h1 := HC.out
            rw [e, HD.out] at h1
            exact heq (Option.some.inj h1).symm
          clear heq
          go_wp2
          go_quiet (fail)
          go_wp2
          go_ret
          exact ⟨ret_bool (by rw [decide_eq_false hE.out]), _, by rw [World.drewN_drewN]⟩
      · have hE : Hid (xs = ys) := by
          have := hall.out
          have h1 := hx.len
          have h2 := hy.len
          rwa [List.take_of_length_le (by omega), List.take_of_length_le (by omega)] at this
        clear hx hy
        go_wp2
        go_ret
        exact ⟨ret_bool (by rw [decide_eq_true hE.out]), _, rfl⟩
  · have hE : Hid (¬ xs = ys) := fun e => hnm (by rw [hx.len, hy.len, e])
    have h1 : ((n : Int) != (m : Int)) = true := by simp; omega
    clear hx hy
    go_enter Try.func55, Try.ntmps55
    go_wp2
    go_ret
    exact ⟨ret_bool (by rw [decide_eq_false hE.out]), 0, rfl⟩


set_option maxHeartbeats 1000000 in
theorem copyi_calls (A : Option Addr) (n ca : Nat) (xs : List Int) (w : World) (hx : RdN w A n xs) (hA : A = none → ca = 0) (hn : n ≤ 10000000) :
    Calls Try.prog 29 #[.slice A n ca] w fun e w' => ∃ g cap, e = .returned (.slice (some ⟨g, 0, none⟩) n cap) ∧ OwnN w' w.heap.size (some ⟨g, 0, none⟩) n cap xs ∧ Below w.heap.size w w' := by
  have hlit := Own.lit 3 1 encN w w.heap.size (Nat.le_refl _)
  have hbl : Below w.heap.size w (w.alloc (.cells #[] 3)) := (Below.refl _ _).alloc (Nat.le_refl _) _
  have HX := Lib.hid (hx.below hbl)
  have HL := Lib.hid hlit
  have HB := Lib.hid hbl
  have HA := Lib.hid hA
  clear hlit hbl hx hA
  go_enter Try.func29, Try.ntmps29
  go_wp2_with (at_builtin; refine app_ints rfl (.tmp 5) (.tmp 6) rfl rfl HL.out rfl HA.out HX.out (by omega) HB.out.size ?_; intro A' cap' w4 h1 h2 h3 h4)
  go_wp2
  go_ret
  rw [Nat.zero_add] at h1
  cases A' with
  | none => exact absurd (h4 rfl) (by simp)
  | some a' =>
    rcases h1.shape with ⟨e, _⟩ | ⟨g, e, e2, _⟩
    · cases e
    · injection e with e; subst e
      refine ⟨g, cap', rfl, h1, HB.out.trans (h2.below HB.out.size (fun i hi => by injection hi with hi; injection hi with hi; omega))⟩
set_option maxHeartbeats 2000000 in
set_option maxRecDepth 20000 in
theorem samer_calls (s t : StateD) (A B : Option Addr) (k l c d : Nat) (w : World) (h : RdN w A k s.tabs) (h2 : RdN w B l t.tabs) (hk : k ≤ 100000000) (hl : l ≤ 100000000) :
    Calls Try.prog 39 #[s.v A k c, t.v B l d] w fun e w' => e = .returned (.bool (decide (s = t))) ∧ Below w.heap.size w w' := by
  obtain ⟨g1, a1, n1, ts⟩ := s
  obtain ⟨g2, a2, n2, us⟩ := t
  have hleaf : ∀ {g1 a1 n1 g2 a2 n2 : Int}, (¬ (g1 = g2 ∧ a1 = a2 ∧ n1 = n2)) → decide ((⟨g1, a1, n1, ts⟩ : StateD) = ⟨g2, a2, n2, us⟩) = false := fun hne => decide_eq_false fun e => by injection e with e1 e2 e3 _; exact hne ⟨e1, e2, e3⟩
  dsimp only [StateD.v] at *
  by_cases hg : g1 = g2
  case neg =>
    rw [hleaf fun h => hg h.1]
    have hq : (g1 == g2) = false := by simpa using hg
    obtain ⟨hbx, cv, dv⟩ := two_boxes w #[.int .i64 g1, .int .i64 a1, .int .i64 n1, .slice A k c] #[.int .i64 g2, .int .i64 a2, .int .i64 n2, .slice B l d] 24 24
    have b0 := cv 0 _ rfl
    have e0 := dv 0 _ rfl
    have HBX := Lib.hid hbx
    clear cv dv hbx h h2 hleaf
    go_enter Try.func39, Try.ntmps39
    go_wp2_with fail
    go_ret
    exact ⟨rfl, HBX.out⟩
  subst hg
  by_cases ha : a1 = a2
  case neg =>
    rw [hleaf fun h => ha h.2.1]
    have hq : (a1 == a2) = false := by simpa using ha
    obtain ⟨hbx, cv, dv⟩ := two_boxes w #[.int .i64 g1, .int .i64 a1, .int .i64 n1, .slice A k c] #[.int .i64 g1, .int .i64 a2, .int .i64 n2, .slice B l d] 24 24
    have b0 := cv 0 _ rfl
    have e0 := dv 0 _ rfl
    have b1 := cv 1 _ rfl
    have e1 := dv 1 _ rfl
    have HBX := Lib.hid hbx
    clear cv dv hbx h h2 hleaf
    go_enter Try.func39, Try.ntmps39
    go_wp2_with fail
    go_ret
    exact ⟨rfl, HBX.out⟩
  subst ha
  by_cases hn : n1 = n2
  case neg =>
    rw [hleaf fun h => hn h.2.2]
    have hq : (n1 == n2) = false := by simpa using hn
    obtain ⟨hbx, cv, dv⟩ := two_boxes w #[.int .i64 g1, .int .i64 a1, .int .i64 n1, .slice A k c] #[.int .i64 g1, .int .i64 a1, .int .i64 n2, .slice B l d] 24 24
    have b0 := cv 0 _ rfl
    have e0 := dv 0 _ rfl
    have b1 := cv 1 _ rfl
    have e1 := dv 1 _ rfl
    have b2 := cv 2 _ rfl
    have e2 := dv 2 _ rfl
    have HBX := Lib.hid hbx
    clear cv dv hbx h h2 hleaf
    go_enter Try.func39, Try.ntmps39
    go_wp2_with fail
    go_ret
    exact ⟨rfl, HBX.out⟩
  subst hn
  obtain ⟨hbx, cv, dv⟩ := two_boxes w #[.int .i64 g1, .int .i64 a1, .int .i64 n1, .slice A k c] #[.int .i64 g1, .int .i64 a1, .int .i64 n1, .slice B l d] 24 24
  have b0 := cv 0 _ rfl
  have e0 := dv 0 _ rfl
  have b1 := cv 1 _ rfl
  have e1 := dv 1 _ rfl
  have b2 := cv 2 _ rfl
  have e2 := dv 2 _ rfl
  have b3 := cv 3 _ rfl
  have e3 := dv 3 _ rfl
  have HBX := Lib.hid hbx
  have HEQ := Lib.hid (samei_calls A B k l c d ts us _ (h.below hbx) (h2.below hbx) hk hl)
  have hdec : decide ((⟨g1, a1, n1, ts⟩ : StateD) = ⟨g1, a1, n1, us⟩) = decide (ts = us) := by
    rw [Bool.eq_iff_iff]
    simp
  rw [hdec]
  clear cv dv hbx h h2 hdec hleaf
  go_enter Try.func39, Try.ntmps39
  go_wp2_with fail
  refine HEQ.out.mono ?_
  rintro e w1 ⟨rfl, nq, rfl⟩
  have hb1 := drewN_below (w.alloc (.cells #[.int .i64 g1, .int .i64 a1, .int .i64 n1, .slice A k c] 24) |>.alloc (.cells #[.int .i64 g1, .int .i64 a1, .int .i64 n1, .slice B l d] 24)) nq
  have HB1 := Lib.hid (HBX.out.trans (hb1.mono HBX.out.size))
  clear hb1 HEQ
  go_wp2_with fail
  go_ret
  exact ⟨rfl, HB1.out⟩

/-- Two boxes, one behind the other: the second one. -/
theorem box_next {w : World} {x y : Obj} : ((w.alloc x).alloc y).heap[w.heap.size + 1]? = some y := by
  have := heap_alloc_new (w.alloc x) y
  rwa [show (w.alloc x).heap.size = w.heap.size + 1 by simp] at this
set_option maxHeartbeats 1000000 in
theorem back_calls (s : StateD) (A : Option Addr) (k c : Nat) (w : World) :
    Calls Try.prog 40 #[s.v A k c] w fun e w' => e = .returned (s.v A k c) ∧ Below w.heap.size w w' := by
  go_enter Try.func40, Try.ntmps40
  go_wp2_with fail
  obtain ⟨y0, y1, y2, y3, _⟩ := box4 (box_next (w := w) (x := .cells #[.int .i64 s.gen, .int .i64 s.app, .int .i64 s.next, .slice A k c] 29) (y := .cells #[.int .i64 s.gen, .int .i64 s.app, .int .i64 s.next, .slice A k c] 24))
  refine bodyPost_ret (v := s.v A k c) (by simp [results, Try.results40, go_sem, y0, y1, y2, y3]; try rfl) rfl ⟨rfl, ?_⟩
  exact ((Below.refl _ _).alloc (Nat.le_refl _) _).alloc (by simp) _
theorem rd_keep {α : Type} {sz : Nat} {enc : α → List Value} {w w' : World} {A : Option Addr} {n : Nat} {xs : List α} {S : Nat → Prop} (h : Rd sz enc w A n xs) (ho : Only S w w') (hS : ∀ b, b < w.heap.size → (∃ a, A = some a ∧ a.block = b) → ¬ S b) : Rd sz enc w' A n xs := by
  cases xs with
  | nil => rw [show n = 0 from h.len]; exact Rd.nil _ _ _ _
  | cons x xs =>
    refine h.only ho fun a ha => ?_
    obtain ⟨b, off, e, hb, _⟩ := h.at_ 0 x rfl
    rw [e] at ha
    injection ha with ha
    subst ha
    exact hS b hb ⟨_, e, rfl⟩
theorem rd_lt {α : Type} {sz : Nat} {enc : α → List Value} {w : World} {A : Option Addr} {n : Nat} {xs : List α} (h : Rd sz enc w A n xs) (hx : xs ≠ []) : ∀ a, A = some a → a.block < w.heap.size := by
  cases xs with
  | nil => exact absurd rfl hx
  | cons x xs =>
    intro a ha
    obtain ⟨b, off, e, hb, _⟩ := h.at_ 0 x rfl
    rw [e] at ha
    injection ha with ha
    subst ha
    exact hb
theorem rd_any {α : Type} {sz : Nat} {enc : α → List Value} {w w' : World} {A : Option Addr} {n : Nat} {xs : List α} {S : Nat → Prop} (h : Rd sz enc w A n xs) (ho : Only S w w') (hS : xs ≠ [] → ∀ a, A = some a → ¬ S a.block) : Rd sz enc w' A n xs := by
  cases xs with
  | nil => rw [show n = 0 from h.len]; exact Rd.nil _ _ _ _
  | cons x xs => exact h.only ho (hS (by simp))
set_option maxHeartbeats 4000000 in
set_option maxRecDepth 20000 in
theorem of_calls (s : StateD) (A : Option Addr) (k c : Nat) (w : World) (h : RdN w A k s.tabs) (hA : A = none → c = 0) (hk : k ≤ 10000000) :
    Calls Try.prog 9 #[s.v A k c] w fun e w' => ∃ g cap, e = .returned (s.v (some ⟨g, 0, none⟩) k cap) ∧ OwnN w' w.heap.size (some ⟨g, 0, none⟩) k cap s.tabs ∧ Below w.heap.size w w' := by
  obtain ⟨wr, hwr⟩ : ∃ wr, wr = (w.alloc (.cells #[.int .i64 s.gen, .int .i64 s.app, .int .i64 s.next, .slice A k c] 24)).alloc (.cells #[.int .i64 0, .int .i64 0, .int .i64 0, .slice none 0 0] 29) := ⟨_, rfl⟩
  have hb : Below w.heap.size w wr := by rw [hwr]; exact ((Below.refl w.heap.size w).alloc (Nat.le_refl _) _).alloc (by simp) _
  have hs : wr.heap[w.heap.size]? = some (.cells #[.int .i64 s.gen, .int .i64 s.app, .int .i64 s.next, .slice A k c] 24) := by
    rw [hwr, ← heap_alloc_new w (.cells #[.int .i64 s.gen, .int .i64 s.app, .int .i64 s.next, .slice A k c] 24)]
    exact ((Below.refl (w.alloc (.cells #[.int .i64 s.gen, .int .i64 s.app, .int .i64 s.next, .slice A k c] 24)).heap.size (w.alloc (.cells #[.int .i64 s.gen, .int .i64 s.app, .int .i64 s.next, .slice A k c] 24))).alloc (Nat.le_refl _) _).block _ (by simp)
  have hq : wr.heap[w.heap.size + 1]? = some (.cells #[.int .i64 0, .int .i64 0, .int .i64 0, .slice none 0 0] 29) := by rw [hwr]; exact box_next
  have hsz : wr.heap.size = w.heap.size + 2 := by rw [hwr]; simp
  obtain ⟨l0, l1, l2, l3, lf⟩ := box4 hs
  have hlt := rd_lt h
  have HH := Lib.hid (h.below hb)
  have HCL : Hid (∀ W, Only (fun k => k = w.heap.size + 1) wr W → Calls Try.prog 29 #[.slice A k c] W fun e w' => ∃ g cap, e = .returned (.slice (some ⟨g, 0, none⟩) k cap) ∧ OwnN w' W.heap.size (some ⟨g, 0, none⟩) k cap s.tabs ∧ Below W.heap.size W w') := fun W hW => copyi_calls A k c s.tabs W (rd_any HH.out hW fun hx a ha he => by have := hlt hx a ha; omega) hA hk
  have HB := Lib.hid hb
  have HQ := Lib.hid hq
  have HSZ := Lib.hid hsz
  have HKA : Hid (∀ (W : World) (o : Obj), (W.cell? ⟨w.heap.size, 0, none⟩ = some (.int .i64 s.gen) ∧ W.cell? ⟨w.heap.size, 1, none⟩ = some (.int .i64 s.app) ∧ W.cell? ⟨w.heap.size, 2, none⟩ = some (.int .i64 s.next) ∧ W.cell? ⟨w.heap.size, 3, none⟩ = some (.slice A k c) ∧ Only (fun k => k = w.heap.size + 1) wr W) → ((W.alloc o).cell? ⟨w.heap.size, 0, none⟩ = some (.int .i64 s.gen) ∧ (W.alloc o).cell? ⟨w.heap.size, 1, none⟩ = some (.int .i64 s.app) ∧ (W.alloc o).cell? ⟨w.heap.size, 2, none⟩ = some (.int .i64 s.next) ∧ (W.alloc o).cell? ⟨w.heap.size, 3, none⟩ = some (.slice A k c) ∧ Only (fun k => k = w.heap.size + 1) wr (W.alloc o))) := fun W o h => by
    have hb := (Below.refl W.heap.size W).alloc (Nat.le_refl _) o
    exact ⟨below_cell hb (Nat.le_refl _) h.1, below_cell hb (Nat.le_refl _) h.2.1, below_cell hb (Nat.le_refl _) h.2.2.1, below_cell hb (Nat.le_refl _) h.2.2.2.1, h.2.2.2.2.trans (hb.only _)⟩
  have HKC : Hid (∀ (W w' : World), (W.cell? ⟨w.heap.size, 0, none⟩ = some (.int .i64 s.gen) ∧ W.cell? ⟨w.heap.size, 1, none⟩ = some (.int .i64 s.app) ∧ W.cell? ⟨w.heap.size, 2, none⟩ = some (.int .i64 s.next) ∧ W.cell? ⟨w.heap.size, 3, none⟩ = some (.slice A k c) ∧ Only (fun k => k = w.heap.size + 1) wr W) → Below W.heap.size W w' → (w'.cell? ⟨w.heap.size, 0, none⟩ = some (.int .i64 s.gen) ∧ w'.cell? ⟨w.heap.size, 1, none⟩ = some (.int .i64 s.app) ∧ w'.cell? ⟨w.heap.size, 2, none⟩ = some (.int .i64 s.next) ∧ w'.cell? ⟨w.heap.size, 3, none⟩ = some (.slice A k c) ∧ Only (fun k => k = w.heap.size + 1) wr w')) := fun W w' h hb =>
    ⟨below_cell hb (Nat.le_refl _) h.1, below_cell hb (Nat.le_refl _) h.2.1, below_cell hb (Nat.le_refl _) h.2.2.1, below_cell hb (Nat.le_refl _) h.2.2.2.1, h.2.2.2.2.trans (hb.only _)⟩
  have HKO : Hid (∀ (W w' : World), (W.cell? ⟨w.heap.size, 0, none⟩ = some (.int .i64 s.gen) ∧ W.cell? ⟨w.heap.size, 1, none⟩ = some (.int .i64 s.app) ∧ W.cell? ⟨w.heap.size, 2, none⟩ = some (.int .i64 s.next) ∧ W.cell? ⟨w.heap.size, 3, none⟩ = some (.slice A k c) ∧ Only (fun k => k = w.heap.size + 1) wr W) → Only (fun k => k = w.heap.size + 1) W w' → (w'.cell? ⟨w.heap.size, 0, none⟩ = some (.int .i64 s.gen) ∧ w'.cell? ⟨w.heap.size, 1, none⟩ = some (.int .i64 s.app) ∧ w'.cell? ⟨w.heap.size, 2, none⟩ = some (.int .i64 s.next) ∧ w'.cell? ⟨w.heap.size, 3, none⟩ = some (.slice A k c) ∧ Only (fun k => k = w.heap.size + 1) wr w')) := fun W w' h ho =>
    ⟨ho.cell h.1 (fun e => by simp only at e; omega), ho.cell h.2.1 (fun e => by simp only at e; omega), ho.cell h.2.2.1 (fun e => by simp only at e; omega), ho.cell h.2.2.2.1 (fun e => by simp only at e; omega), h.2.2.2.2.trans ho⟩
  have HL : Hid (wr.drew.cell? ⟨w.heap.size, 0, none⟩ = some (.int .i64 s.gen) ∧ wr.drew.cell? ⟨w.heap.size, 1, none⟩ = some (.int .i64 s.app) ∧ wr.drew.cell? ⟨w.heap.size, 2, none⟩ = some (.int .i64 s.next) ∧ wr.drew.cell? ⟨w.heap.size, 3, none⟩ = some (.slice A k c) ∧ Only (fun k => k = w.heap.size + 1) wr wr.drew) := ⟨l0, l1, l2, l3, (below_drew1 wr).only _⟩
  clear hb hs hq hsz h hA hlt
  go_enter Try.func9, Try.ntmps9
  go_wp2_with fail
  rw [← hwr]
  clear hwr
  go_region_held3 (fun w' => (w'.cell? ⟨w.heap.size, 0, none⟩ = some (.int .i64 s.gen) ∧ w'.cell? ⟨w.heap.size, 1, none⟩ = some (.int .i64 s.app) ∧ w'.cell? ⟨w.heap.size, 2, none⟩ = some (.int .i64 s.next) ∧ w'.cell? ⟨w.heap.size, 3, none⟩ = some (.slice A k c) ∧ Only (fun k => k = w.heap.size + 1) wr w')) (first | exact HL.out | (with_reducible exact HS3.out) | (with_reducible exact HKA.out _ _ HS3.out) | (with_reducible exact HKO.out _ _ HS3.out (set4 HQ3.out _ _ _ _).2) | exact HKA.out wr.drew _ HL.out) (first | (go_at_call 29; refine (HCL.out _ (by have h : _ ∧ _ ∧ _ ∧ _ ∧ Only (fun k => k = w.heap.size + 1) wr _ := (by assumption); exact h.2.2.2.2)).mono ?_; rintro e w3 ⟨g, mc, rfl, ho3, hb3⟩; have HS3 : Hid (w3.cell? ⟨w.heap.size, 0, none⟩ = some (.int .i64 s.gen) ∧ w3.cell? ⟨w.heap.size, 1, none⟩ = some (.int .i64 s.app) ∧ w3.cell? ⟨w.heap.size, 2, none⟩ = some (.int .i64 s.next) ∧ w3.cell? ⟨w.heap.size, 3, none⟩ = some (.slice A k c) ∧ Only (fun k => k = w.heap.size + 1) wr w3) := HKC.out _ _ (by assumption) hb3; have HO3 := Lib.hid ho3; have hq : w3.heap[w.heap.size + 1]? = some (.cells #[.int .i64 0, .int .i64 0, .int .i64 0, .slice none 0 0] 29) := (hb3.block (w.heap.size + 1) (by have := HSZ.out; simp; omega)).trans HQ.out; have HQ3 := Lib.hid hq; obtain ⟨q0', q1', q2', q3', qf'⟩ := box4 hq; clear hq hb3 ho3))
  obtain ⟨hs1, hs2⟩ := set4 HQ3.out (.int .i64 s.gen) (.int .i64 s.app) (.int .i64 s.next) (.slice (some ⟨g, 0, none⟩) k mc)
  have hown := HO3.out.only hs2 fun x hx he => by have h8 := own_low HO3.out _ hx; have h9 := HSZ.out; simp at h8; omega
  have hbl := HB.out.trans ((HS3.out.2.2.2.2.trans hs2).below (B := w.heap.size) HB.out.size fun i hi => by omega)
  generalize ((((w3.setCell ⟨w.heap.size + 1, 0, none⟩ (.int .i64 s.gen)).setCell ⟨w.heap.size + 1, 1, none⟩ (.int .i64 s.app)).setCell ⟨w.heap.size + 1, 2, none⟩ (.int .i64 s.next)).setCell ⟨w.heap.size + 1, 3, none⟩ (.slice (some ⟨g, 0, none⟩) k mc)) = w4 at hs1 hown hbl ⊢
  obtain ⟨y0, y1, y2, y3, _⟩ := box4 hs1
  have HBL := Lib.hid hbl
  have HOW := Lib.hid hown
  have HZ : Hid (w.heap.size ≤ wr.drew.heap.size) := by have := HSZ.out; unfold Hid; simp; omega
  clear hs1 hs2 hown hbl HQ3 HS3 HO3 HKA HKC HKO HL HCL q0' q1' q2' q3' qf' l0 l1 l2 l3 lf
  go_wp2_with fail
  refine bodyPost_ret (v := s.v (some ⟨g, 0, none⟩) k mc) (by simp [results, Try.results9, go_sem, y0, y1, y2, y3]; try rfl) rfl ⟨g, mc, rfl, HOW.out.lower HZ.out, HBL.out⟩

set_option maxHeartbeats 4000000 in
set_option maxRecDepth 20000 in
theorem same_calls (s t : StateD) (A B : Option Addr) (k l c d : Nat) (w : World) (h : RdN w A k s.tabs) (h2 : RdN w B l t.tabs) (hB : B = none → d = 0) (hk : k ≤ 10000000) (hl : l ≤ 10000000) :
    Calls Try.prog 18 #[s.v A k c, t.v B l d] w fun e w' => e = .returned (.bool (decide (s = t))) ∧ Below w.heap.size w w' := by
  generalize hbv : decide (s = t) = bv
  obtain ⟨wr, hwr⟩ : ∃ wr, wr = (w.alloc (.cells #[.int .i64 s.gen, .int .i64 s.app, .int .i64 s.next, .slice A k c] 29)).alloc (.cells #[.int .i64 t.gen, .int .i64 t.app, .int .i64 t.next, .slice B l d] 24) := ⟨_, rfl⟩
  have hb : Below w.heap.size w wr := by rw [hwr]; exact ((Below.refl w.heap.size w).alloc (Nat.le_refl _) _).alloc (by simp) _
  have hs : wr.heap[w.heap.size]? = some (.cells #[.int .i64 s.gen, .int .i64 s.app, .int .i64 s.next, .slice A k c] 29) := by
    rw [hwr, ← heap_alloc_new w (.cells #[.int .i64 s.gen, .int .i64 s.app, .int .i64 s.next, .slice A k c] 29)]
    exact ((Below.refl (w.alloc (.cells #[.int .i64 s.gen, .int .i64 s.app, .int .i64 s.next, .slice A k c] 29)).heap.size (w.alloc (.cells #[.int .i64 s.gen, .int .i64 s.app, .int .i64 s.next, .slice A k c] 29))).alloc (Nat.le_refl _) _).block _ (by simp)
  have hq : wr.heap[w.heap.size + 1]? = some (.cells #[.int .i64 t.gen, .int .i64 t.app, .int .i64 t.next, .slice B l d] 24) := by rw [hwr]; exact box_next
  obtain ⟨a0, a1, a2, a3, _⟩ := box4 hs
  obtain ⟨b0, b1, b2, b3, _⟩ := box4 hq
  have HH := Lib.hid (h.below hb)
  have HH2 := Lib.hid (h2.below hb)
  have HOF : Hid (∀ W, Below wr.heap.size wr W → Calls Try.prog 9 #[t.v B l d] W fun e w' => ∃ g cap, e = .returned (t.v (some ⟨g, 0, none⟩) l cap) ∧ OwnN w' W.heap.size (some ⟨g, 0, none⟩) l cap t.tabs ∧ Below W.heap.size W w') := fun W hW => of_calls t B l d W (HH2.out.below hW) hB hl
  have HSM : Hid (∀ W g mc, Below wr.heap.size wr W → RdN W (some ⟨g, 0, none⟩) l t.tabs → Calls Try.prog 38 #[s.v A k c, t.v (some ⟨g, 0, none⟩) l mc] W fun e w' => e = .returned (.bool bv) ∧ Below W.heap.size W w') := fun W g mc hW hr => by rw [← hbv]; exact samem_calls s t A (some ⟨g, 0, none⟩) k l c mc W (HH.out.below hW) hr (by omega) (by omega)
  have HBK : Hid (∀ W, Calls Try.prog 40 #[s.v A k c] W fun e w' => e = .returned (s.v A k c) ∧ Below W.heap.size W w') := fun W => back_calls s A k c W
  have HSR : Hid (∀ W, Below wr.heap.size wr W → Calls Try.prog 39 #[s.v A k c, t.v B l d] W fun e w' => e = .returned (.bool bv) ∧ Below W.heap.size W w') := fun W hW => by rw [← hbv]; exact samer_calls s t A B k l c d W (HH.out.below hW) (HH2.out.below hW) (by omega) (by omega)
  have HB := Lib.hid hb
  have HKA : Hid (∀ (W : World) (o : Obj), (W.cell? ⟨w.heap.size, 0, none⟩ = some (.int .i64 s.gen) ∧ W.cell? ⟨w.heap.size, 1, none⟩ = some (.int .i64 s.app) ∧ W.cell? ⟨w.heap.size, 2, none⟩ = some (.int .i64 s.next) ∧ W.cell? ⟨w.heap.size, 3, none⟩ = some (.slice A k c) ∧ W.cell? ⟨w.heap.size + 1, 0, none⟩ = some (.int .i64 t.gen) ∧ W.cell? ⟨w.heap.size + 1, 1, none⟩ = some (.int .i64 t.app) ∧ W.cell? ⟨w.heap.size + 1, 2, none⟩ = some (.int .i64 t.next) ∧ W.cell? ⟨w.heap.size + 1, 3, none⟩ = some (.slice B l d) ∧ Below wr.heap.size wr W) → ((W.alloc o).cell? ⟨w.heap.size, 0, none⟩ = some (.int .i64 s.gen) ∧ (W.alloc o).cell? ⟨w.heap.size, 1, none⟩ = some (.int .i64 s.app) ∧ (W.alloc o).cell? ⟨w.heap.size, 2, none⟩ = some (.int .i64 s.next) ∧ (W.alloc o).cell? ⟨w.heap.size, 3, none⟩ = some (.slice A k c) ∧ (W.alloc o).cell? ⟨w.heap.size + 1, 0, none⟩ = some (.int .i64 t.gen) ∧ (W.alloc o).cell? ⟨w.heap.size + 1, 1, none⟩ = some (.int .i64 t.app) ∧ (W.alloc o).cell? ⟨w.heap.size + 1, 2, none⟩ = some (.int .i64 t.next) ∧ (W.alloc o).cell? ⟨w.heap.size + 1, 3, none⟩ = some (.slice B l d) ∧ Below wr.heap.size wr (W.alloc o))) := fun W o h => by
    have hb := (Below.refl W.heap.size W).alloc (Nat.le_refl _) o
    exact ⟨below_cell hb (Nat.le_refl _) h.1, below_cell hb (Nat.le_refl _) h.2.1, below_cell hb (Nat.le_refl _) h.2.2.1, below_cell hb (Nat.le_refl _) h.2.2.2.1, below_cell hb (Nat.le_refl _) h.2.2.2.2.1, below_cell hb (Nat.le_refl _) h.2.2.2.2.2.1, below_cell hb (Nat.le_refl _) h.2.2.2.2.2.2.1, below_cell hb (Nat.le_refl _) h.2.2.2.2.2.2.2.1, h.2.2.2.2.2.2.2.2.alloc h.2.2.2.2.2.2.2.2.size o⟩
  have HKC : Hid (∀ (W w' : World), (W.cell? ⟨w.heap.size, 0, none⟩ = some (.int .i64 s.gen) ∧ W.cell? ⟨w.heap.size, 1, none⟩ = some (.int .i64 s.app) ∧ W.cell? ⟨w.heap.size, 2, none⟩ = some (.int .i64 s.next) ∧ W.cell? ⟨w.heap.size, 3, none⟩ = some (.slice A k c) ∧ W.cell? ⟨w.heap.size + 1, 0, none⟩ = some (.int .i64 t.gen) ∧ W.cell? ⟨w.heap.size + 1, 1, none⟩ = some (.int .i64 t.app) ∧ W.cell? ⟨w.heap.size + 1, 2, none⟩ = some (.int .i64 t.next) ∧ W.cell? ⟨w.heap.size + 1, 3, none⟩ = some (.slice B l d) ∧ Below wr.heap.size wr W) → Below W.heap.size W w' → (w'.cell? ⟨w.heap.size, 0, none⟩ = some (.int .i64 s.gen) ∧ w'.cell? ⟨w.heap.size, 1, none⟩ = some (.int .i64 s.app) ∧ w'.cell? ⟨w.heap.size, 2, none⟩ = some (.int .i64 s.next) ∧ w'.cell? ⟨w.heap.size, 3, none⟩ = some (.slice A k c) ∧ w'.cell? ⟨w.heap.size + 1, 0, none⟩ = some (.int .i64 t.gen) ∧ w'.cell? ⟨w.heap.size + 1, 1, none⟩ = some (.int .i64 t.app) ∧ w'.cell? ⟨w.heap.size + 1, 2, none⟩ = some (.int .i64 t.next) ∧ w'.cell? ⟨w.heap.size + 1, 3, none⟩ = some (.slice B l d) ∧ Below wr.heap.size wr w')) := fun W w' h hb =>
    ⟨below_cell hb (Nat.le_refl _) h.1, below_cell hb (Nat.le_refl _) h.2.1, below_cell hb (Nat.le_refl _) h.2.2.1, below_cell hb (Nat.le_refl _) h.2.2.2.1, below_cell hb (Nat.le_refl _) h.2.2.2.2.1, below_cell hb (Nat.le_refl _) h.2.2.2.2.2.1, below_cell hb (Nat.le_refl _) h.2.2.2.2.2.2.1, below_cell hb (Nat.le_refl _) h.2.2.2.2.2.2.2.1, h.2.2.2.2.2.2.2.2.trans (hb.mono h.2.2.2.2.2.2.2.2.size)⟩
  have HL : Hid (wr.drew.cell? ⟨w.heap.size, 0, none⟩ = some (.int .i64 s.gen) ∧ wr.drew.cell? ⟨w.heap.size, 1, none⟩ = some (.int .i64 s.app) ∧ wr.drew.cell? ⟨w.heap.size, 2, none⟩ = some (.int .i64 s.next) ∧ wr.drew.cell? ⟨w.heap.size, 3, none⟩ = some (.slice A k c) ∧ wr.drew.cell? ⟨w.heap.size + 1, 0, none⟩ = some (.int .i64 t.gen) ∧ wr.drew.cell? ⟨w.heap.size + 1, 1, none⟩ = some (.int .i64 t.app) ∧ wr.drew.cell? ⟨w.heap.size + 1, 2, none⟩ = some (.int .i64 t.next) ∧ wr.drew.cell? ⟨w.heap.size + 1, 3, none⟩ = some (.slice B l d) ∧ Below wr.heap.size wr wr.drew) := ⟨a0, a1, a2, a3, b0, b1, b2, b3, below_drew1 wr⟩
  clear hb hs hq h h2 hB hbv
  go_enter Try.func18, Try.ntmps18
  go_wp2_with fail
  rw [← hwr]
  clear hwr
  cases bv
  · first | (go_region_law (go_simp; go_wp2_with (first | (go_at_call 9; refine (HOF.out _ (below_drew1 wr)).mono ?_; rintro e w3 ⟨g, mc, rfl, ho3, hb3⟩; have HS3 : Hid (w3.cell? ⟨w.heap.size, 0, none⟩ = some (.int .i64 s.gen) ∧ w3.cell? ⟨w.heap.size, 1, none⟩ = some (.int .i64 s.app) ∧ w3.cell? ⟨w.heap.size, 2, none⟩ = some (.int .i64 s.next) ∧ w3.cell? ⟨w.heap.size, 3, none⟩ = some (.slice A k c) ∧ w3.cell? ⟨w.heap.size + 1, 0, none⟩ = some (.int .i64 t.gen) ∧ w3.cell? ⟨w.heap.size + 1, 1, none⟩ = some (.int .i64 t.app) ∧ w3.cell? ⟨w.heap.size + 1, 2, none⟩ = some (.int .i64 t.next) ∧ w3.cell? ⟨w.heap.size + 1, 3, none⟩ = some (.slice B l d) ∧ Below wr.heap.size wr w3) := HKC.out _ _ HL.out hb3; have HO3 := Lib.hid (ho3.rd encN_len); obtain ⟨x0, x1, x2, x3, x4, x5, x6, x7, _⟩ := HS3.out; clear hb3 ho3) | (go_at_call 38; refine (HSM.out _ _ _ HS3.out.2.2.2.2.2.2.2.2 HO3.out).mono ?_; rintro e w5 ⟨rfl, hb5⟩; have HS5 : Hid (w5.cell? ⟨w.heap.size, 0, none⟩ = some (.int .i64 s.gen) ∧ w5.cell? ⟨w.heap.size, 1, none⟩ = some (.int .i64 s.app) ∧ w5.cell? ⟨w.heap.size, 2, none⟩ = some (.int .i64 s.next) ∧ w5.cell? ⟨w.heap.size, 3, none⟩ = some (.slice A k c) ∧ w5.cell? ⟨w.heap.size + 1, 0, none⟩ = some (.int .i64 t.gen) ∧ w5.cell? ⟨w.heap.size + 1, 1, none⟩ = some (.int .i64 t.app) ∧ w5.cell? ⟨w.heap.size + 1, 2, none⟩ = some (.int .i64 t.next) ∧ w5.cell? ⟨w.heap.size + 1, 3, none⟩ = some (.slice B l d) ∧ Below wr.heap.size wr w5) := HKC.out _ _ HS3.out hb5; obtain ⟨z0, z1, z2, z3, z4, z5, z6, z7, _⟩ := HS5.out; clear hb5)))) | fail
    all_goals
      have HS8 := Lib.hid (HB.out.trans (HS5.out.2.2.2.2.2.2.2.2.mono HB.out.size))
      clear HS3 HO3 HS5 x0 x1 x2 x3 x4 x5 x6 x7 z0 z1 z2 z3 z4 z5 z6 z7
      go_simp
      go_wp2_with fail
      go_ret
      exact ⟨rfl, HS8.out⟩
  · first | (go_region_held3 (fun w' => (w'.cell? ⟨w.heap.size, 0, none⟩ = some (.int .i64 s.gen) ∧ w'.cell? ⟨w.heap.size, 1, none⟩ = some (.int .i64 s.app) ∧ w'.cell? ⟨w.heap.size, 2, none⟩ = some (.int .i64 s.next) ∧ w'.cell? ⟨w.heap.size, 3, none⟩ = some (.slice A k c) ∧ w'.cell? ⟨w.heap.size + 1, 0, none⟩ = some (.int .i64 t.gen) ∧ w'.cell? ⟨w.heap.size + 1, 1, none⟩ = some (.int .i64 t.app) ∧ w'.cell? ⟨w.heap.size + 1, 2, none⟩ = some (.int .i64 t.next) ∧ w'.cell? ⟨w.heap.size + 1, 3, none⟩ = some (.slice B l d) ∧ Below wr.heap.size wr w')) (first | exact HL.out | (with_reducible exact HS3.out) | (with_reducible exact HS5.out) | (with_reducible exact HS6.out) | (with_reducible exact HS7.out) | exact HKA.out wr.drew _ HL.out) (first | (go_at_call 9; refine (HOF.out _ (by have h : _ ∧ _ ∧ _ ∧ _ ∧ _ ∧ _ ∧ _ ∧ _ ∧ Below wr.heap.size wr _ := (by assumption); exact h.2.2.2.2.2.2.2.2)).mono ?_; rintro e w3 ⟨g, mc, rfl, ho3, hb3⟩; have HS3 : Hid (w3.cell? ⟨w.heap.size, 0, none⟩ = some (.int .i64 s.gen) ∧ w3.cell? ⟨w.heap.size, 1, none⟩ = some (.int .i64 s.app) ∧ w3.cell? ⟨w.heap.size, 2, none⟩ = some (.int .i64 s.next) ∧ w3.cell? ⟨w.heap.size, 3, none⟩ = some (.slice A k c) ∧ w3.cell? ⟨w.heap.size + 1, 0, none⟩ = some (.int .i64 t.gen) ∧ w3.cell? ⟨w.heap.size + 1, 1, none⟩ = some (.int .i64 t.app) ∧ w3.cell? ⟨w.heap.size + 1, 2, none⟩ = some (.int .i64 t.next) ∧ w3.cell? ⟨w.heap.size + 1, 3, none⟩ = some (.slice B l d) ∧ Below wr.heap.size wr w3) := HKC.out _ _ (by assumption) hb3; have HO3 := Lib.hid (ho3.rd encN_len); clear hb3 ho3) | (go_at_call 38; refine (HSM.out _ _ _ (by have h : _ ∧ _ ∧ _ ∧ _ ∧ _ ∧ _ ∧ _ ∧ _ ∧ Below wr.heap.size wr _ := (by assumption); exact h.2.2.2.2.2.2.2.2) HO3.out).mono ?_; rintro e w5 ⟨rfl, hb5⟩; have HS5 : Hid (w5.cell? ⟨w.heap.size, 0, none⟩ = some (.int .i64 s.gen) ∧ w5.cell? ⟨w.heap.size, 1, none⟩ = some (.int .i64 s.app) ∧ w5.cell? ⟨w.heap.size, 2, none⟩ = some (.int .i64 s.next) ∧ w5.cell? ⟨w.heap.size, 3, none⟩ = some (.slice A k c) ∧ w5.cell? ⟨w.heap.size + 1, 0, none⟩ = some (.int .i64 t.gen) ∧ w5.cell? ⟨w.heap.size + 1, 1, none⟩ = some (.int .i64 t.app) ∧ w5.cell? ⟨w.heap.size + 1, 2, none⟩ = some (.int .i64 t.next) ∧ w5.cell? ⟨w.heap.size + 1, 3, none⟩ = some (.slice B l d) ∧ Below wr.heap.size wr w5) := HKC.out _ _ (by assumption) hb5; clear hb5) | (go_at_call 40; refine (HBK.out _).mono ?_; rintro e w6 ⟨rfl, hb6⟩; have HS6 : Hid (w6.cell? ⟨w.heap.size, 0, none⟩ = some (.int .i64 s.gen) ∧ w6.cell? ⟨w.heap.size, 1, none⟩ = some (.int .i64 s.app) ∧ w6.cell? ⟨w.heap.size, 2, none⟩ = some (.int .i64 s.next) ∧ w6.cell? ⟨w.heap.size, 3, none⟩ = some (.slice A k c) ∧ w6.cell? ⟨w.heap.size + 1, 0, none⟩ = some (.int .i64 t.gen) ∧ w6.cell? ⟨w.heap.size + 1, 1, none⟩ = some (.int .i64 t.app) ∧ w6.cell? ⟨w.heap.size + 1, 2, none⟩ = some (.int .i64 t.next) ∧ w6.cell? ⟨w.heap.size + 1, 3, none⟩ = some (.slice B l d) ∧ Below wr.heap.size wr w6) := HKC.out _ _ (by assumption) hb6; clear hb6) | (go_at_call 39; refine (HSR.out _ (by have h : _ ∧ _ ∧ _ ∧ _ ∧ _ ∧ _ ∧ _ ∧ _ ∧ Below wr.heap.size wr _ := (by assumption); exact h.2.2.2.2.2.2.2.2)).mono ?_; rintro e w7 ⟨rfl, hb7⟩; have HS7 : Hid (w7.cell? ⟨w.heap.size, 0, none⟩ = some (.int .i64 s.gen) ∧ w7.cell? ⟨w.heap.size, 1, none⟩ = some (.int .i64 s.app) ∧ w7.cell? ⟨w.heap.size, 2, none⟩ = some (.int .i64 s.next) ∧ w7.cell? ⟨w.heap.size, 3, none⟩ = some (.slice A k c) ∧ w7.cell? ⟨w.heap.size + 1, 0, none⟩ = some (.int .i64 t.gen) ∧ w7.cell? ⟨w.heap.size + 1, 1, none⟩ = some (.int .i64 t.app) ∧ w7.cell? ⟨w.heap.size + 1, 2, none⟩ = some (.int .i64 t.next) ∧ w7.cell? ⟨w.heap.size + 1, 3, none⟩ = some (.slice B l d) ∧ Below wr.heap.size wr w7) := HKC.out _ _ (by assumption) hb7; clear hb7))) | fail
    clear HS3 HO3 HS5 HS6
    have HS8 := Lib.hid (HB.out.trans (HS7.out.2.2.2.2.2.2.2.2.mono HB.out.size))
    clear HS7
    go_wp2_with fail
    go_ret
    exact ⟨rfl, HS8.out⟩
end Go.Proofs.Ytideokbaenkijaa
