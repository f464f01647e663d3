/-
  ManifestBytes, walked.
-/
import Derived.Test.YtideokbaenkijaaMRRd
import Derived.Test.YtideokbaenkijaaMOpen
namespace Go.Proofs.Ytideokbaenkijaa
open Go.RowKit

def encO (s : StateD) : List Int := if rightS s then bytesS s else []
theorem encO_len (s : StateD) : (encO s).length ≤ 486 := by
  unfold encO
  split
  · exact bytesS_len (by assumption)
  · simp
/-- An answer of bytes, and whether there are any. -/
def EncB (s : StateD) (w : World) (e : Ending) (w' : World) : Prop := Below w.heap.size w w' ∧ ∃ B m c, e = .returned (.tuple #[.slice B m c, .bool (rightS s)]) ∧ RdB w' B m (encO s)
theorem encB_of {s : StateD} {w w' : World} {e : Ending} (h : EncOut s w e w') : EncB s w e w' := by
  obtain ⟨hb, ⟨hr, rfl⟩ | ⟨hr, B, m, c, rfl, ho⟩⟩ := h
  · refine ⟨hb, none, 0, 0, by rw [hr], ?_⟩
    unfold encO; rw [hr]
    exact Rd.nil _ _ _ _
  · refine ⟨hb, B, m, c, by rw [hr], ?_⟩
    unfold encO; rw [hr]
    exact ho.rd encB_len
/-- An answer of a state, and whether there is one. -/
def DecB (xs : List Int) (w : World) (e : Ending) (w' : World) : Prop := Below w.heap.size w w' ∧ ∃ (s : StateD) (B : Option Addr) (k c : Nat), s = (decS xs).getD zeroS ∧ e = .returned (.tuple #[s.v B k c, .bool (decS xs).isSome]) ∧ RdN w' B k s.tabs ∧ (B = none → c = 0) ∧ k ≤ 50
theorem decB_of {xs : List Int} {w w' : World} {e : Ending} (h : DecMOut xs w e w') : DecB xs w e w' := by
  obtain ⟨hb, ⟨hr, rfl⟩ | ⟨s, B, k, c, hr, rfl, h1, h2, h3, _⟩⟩ := h
  · exact ⟨hb, zeroS, none, 0, 0, by rw [hr]; rfl, by rw [hr]; rfl, Rd.nil _ _ _ _, fun _ => rfl, Nat.zero_le _⟩
  · exact ⟨hb, s, B, k, c, by rw [hr]; rfl, by rw [hr]; rfl, h1, h2, h3⟩
def readN (xs : List Int) : Nat := match readS xs with
  | none => 0
  | some p => p.2
def readE (xs : List Int) : Int := match readS xs with
  | none => 20
  | some _ => 0
def readD (xs : List Int) : StateD := match readS xs with
  | none => zeroS
  | some p => p.1
def ReadB (xs : List Int) (w : World) (e : Ending) (w' : World) : Prop := Below w.heap.size w w' ∧ ∃ (s : StateD) (B : Option Addr) (k c : Nat), s = readD xs ∧ e = .returned (.tuple #[s.v B k c, .int .i64 (readN xs), .int .i64 (readE xs)]) ∧ RdN w' B k s.tabs ∧ (B = none → c = 0) ∧ k ≤ 50
theorem readB_of {xs : List Int} {w w' : World} {e : Ending} (h : ReadOut xs w e w') : ReadB xs w e w' := by
  obtain ⟨hb, ⟨hr, rfl⟩ | ⟨s, m, B, k, c, hr, _, rfl, h1, h2, h3, _⟩⟩ := h
  · exact ⟨hb, zeroS, none, 0, 0, by unfold readD; rw [hr], by unfold readN readE; rw [hr]; rfl, Rd.nil _ _ _ _, fun _ => rfl, Nat.zero_le _⟩
  · exact ⟨hb, s, B, k, c, by unfold readD; rw [hr], by unfold readN readE; rw [hr], h1, h2, h3⟩

set_option maxHeartbeats 1000000 in
set_option maxRecDepth 20000 in
theorem bytes_law (s : StateD) (A : Option Addr) (k c : Nat) (E : Option Addr) (n ca : Nat) (xs : List Int) (w : World) (h : StateIn w s A k c) (hg : RdB w E n xs ∧ Bytes xs ∧ (E = none → ca = 0) ∧ n ≤ ca ∧ ca ≤ 140737488355328) (_ : True) :
    Calls Try.prog 3 #[s.v A k c, .slice E n ca] w fun e w' => e = .returned (.bool true) ∧ Below w.heap.size w w' := by
  obtain ⟨hx, hby, hen, hnc, hcm⟩ := hg
  have hcm2 : ca ≤ maxLen := by unfold maxLen; omega
  obtain ⟨W0, hW0⟩ : ∃ W0, W0 = w.alloc (.cells #[.int .i64 s.gen, .int .i64 s.app, .int .i64 s.next, .slice A k c] 24) := ⟨_, rfl⟩
  have hbx : Below w.heap.size w W0 := by rw [hW0]; exact (Below.refl _ _).alloc (Nat.le_refl _) _
  have hs0 : W0.heap[w.heap.size]? = some (.cells #[.int .i64 s.gen, .int .i64 s.app, .int .i64 s.next, .slice A k c] 24) := by rw [hW0]; exact heap_alloc_new _ _
  have HAL := Lib.hid (alive_calls W0)
  have HBX := Lib.hid hbx
  have HS0 := Lib.hid hs0
  have HH := Lib.hid h.rd
  have HAN := Lib.hid h.nil
  have HX := Lib.hid hx
  have HBY := Lib.hid hby
  have HEN := Lib.hid hen
  have HNC := Lib.hid hnc
  have HCM := Lib.hid hcm2
  have HWZ : Hid (w.heap.size < W0.heap.size) := by unfold Hid; rw [hW0]; simp
  clear hbx hs0 h hx hby hen hnc hcm hcm2
  go_enter Try.func3, Try.ntmps3
  go_wp2_with fail
  rw [← hW0]
  clear hW0
  refine HAL.out.mono ?_
  rintro e w1 ⟨rfl, hb1⟩
  have HB1 := Lib.hid (HBX.out.trans (hb1.mono HBX.out.size))
  have hs1 := (hb1.block _ HWZ.out).trans HS0.out
  have HS1 := Lib.hid hs1
  obtain ⟨p0, p1, p2, p3, pf⟩ := box4 hs1
  have HZ1 := Lib.hid (Nat.lt_of_lt_of_le HWZ.out hb1.size)
  clear hb1 HAL hs1 HS0 HWZ HBX
  by_cases hk : k > 200
  · have hk' : (k : Int) > 200 := by omega
    go_wp2_with fail
    go_ret
    exact ⟨rfl, HB1.out⟩
  have hk' : ¬ (k : Int) > 200 := by omega
  by_cases hn : n > 3000
  · have hn' : (n : Int) > 3000 := by omega
    go_wp2_with fail
    go_ret
    exact ⟨rfl, HB1.out⟩
  have hn' : ¬ (n : Int) > 3000 := by omega
  have hk6 : k ≤ 200 := by omega
  have hn6 : n ≤ 3000 := by omega
  have HOF := Lib.hid (of_calls s A k c w1 (HH.out.below HB1.out) HAN.out (by omega))
  clear hk hn
  go_wp2_with fail
  refine HOF.out.mono ?_
  rintro e w2 ⟨g, mc, rfl, ho, hb2⟩
  have HE1 := Lib.hid ((encm_calls s (some ⟨g, 0, none⟩) k mc w2 (ho.rd encN_len) (fun e => by cases e) (by omega)).mono fun _ _ => encB_of)
  have HS2 := Lib.hid ((hb2.block _ HZ1.out).trans HS1.out)
  have HB2 := Lib.hid (HB1.out.trans (hb2.mono HB1.out.size))
  have HZ2 := Lib.hid (Nat.lt_of_lt_of_le HZ1.out hb2.size)
  clear ho hb2 HOF p0 p1 p2 p3 pf
  go_wp2_with fail
  refine HE1.out.mono ?_
  rintro e w3 ⟨hb3, X1, m1, c1, rfl, hx1⟩
  have hs3 := (hb3.block _ HZ2.out).trans HS2.out
  have HS3 := Lib.hid hs3
  obtain ⟨p0, p1, p2, p3, pf⟩ := box4 hs3
  have HB3 := Lib.hid (HB2.out.trans (hb3.mono HB2.out.size))
  have HZ3 := Lib.hid (Nat.lt_of_lt_of_le HZ2.out hb3.size)
  have HX1 := Lib.hid hx1
  have HE2 := Lib.hid ((rencm_calls s A k c w3 (HH.out.below HB3.out) HAN.out (by omega)).mono fun _ _ => encB_of)
  clear hb3 hs3 hx1 HE1 HS2
  go_wp2_with fail
  refine HE2.out.mono ?_
  rintro e w4 ⟨hb4, X2, m2, c2, rfl, hx2⟩
  have HS4 := Lib.hid ((hb4.block _ HZ3.out).trans HS3.out)
  have HB4 := Lib.hid (HB3.out.trans (hb4.mono HB3.out.size))
  have HZ4 := Lib.hid (Nat.lt_of_lt_of_le HZ3.out hb4.size)
  have HX2 := Lib.hid hx2
  have HX14 := Lib.hid (HX1.out.below hb4)
  have HD1 := Lib.hid ((decm_calls E n ca xs w4 (HX.out.below HB4.out) HBY.out (by omega) HNC.out HCM.out).mono fun _ _ => decB_of)
  clear hb4 hx2 HE2 HS3 HX1 p0 p1 p2 p3 pf
  go_wp2_with fail
  refine HD1.out.mono ?_
  rintro e w5 ⟨hb5, p, P, pk, pc, hp, rfl, hpr, hpn, hpk⟩
  clear HD1
  have hba5 : Below w5.heap.size w5 (w5.alloc (.cells #[.int .i64 p.gen, .int .i64 p.app, .int .i64 p.next, .slice P pk pc] 29)) := (Below.refl _ _).alloc (Nat.le_refl _) _
  obtain ⟨V5, hV5⟩ : ∃ V5, V5 = w5.alloc (.cells #[.int .i64 p.gen, .int .i64 p.app, .int .i64 p.next, .slice P pk pc] 29) := ⟨_, rfl⟩
  rw [← hV5] at hba5
  have h45 := hb5.trans (hba5.mono hb5.size)
  have hn5 : V5.heap[w5.heap.size]? = some (.cells #[.int .i64 p.gen, .int .i64 p.app, .int .i64 p.next, .slice P pk pc] 29) := by rw [hV5]; exact heap_alloc_new _ _
  have HP5 := Lib.hid hn5
  have HZP5 : Hid (w5.heap.size < V5.heap.size) := (Array.getElem?_eq_some_iff.1 hn5).1
  have HS5 := Lib.hid ((h45.block _ HZ4.out).trans HS4.out)
  have HB5 := Lib.hid (HB4.out.trans (h45.mono HB4.out.size))
  have HZS5 := Lib.hid (Nat.lt_of_lt_of_le HZ4.out h45.size)
  have HPR5 := Lib.hid (hpr.below hba5)
  have HPK := Lib.hid hpk
  have HPE := Lib.hid hp
  have HPN := Lib.hid hpn
  have HX15 := Lib.hid (HX14.out.below h45)
  have HX25 := Lib.hid (HX2.out.below h45)
  have HD2 := Lib.hid ((rdecm_calls E n ca xs V5 (HX.out.below HB5.out) HBY.out (by omega) HNC.out HCM.out).mono fun _ _ => decB_of)
  clear hb5 hba5 h45 hn5 hpr hp hpn hpk HS4 HX14 HX2
  go_wp2_with fail
  rw [← hV5]
  clear hV5
  refine HD2.out.mono ?_
  clear HD2
  rintro e w6 ⟨hb6, q, Qr, qk, qc, hq, rfl, hqr, hqn, hqk⟩
  have hba6 : Below w6.heap.size w6 (w6.alloc (.cells #[.int .i64 q.gen, .int .i64 q.app, .int .i64 q.next, .slice Qr qk qc] 24)) := (Below.refl _ _).alloc (Nat.le_refl _) _
  obtain ⟨V6, hV6⟩ : ∃ V6, V6 = w6.alloc (.cells #[.int .i64 q.gen, .int .i64 q.app, .int .i64 q.next, .slice Qr qk qc] 24) := ⟨_, rfl⟩
  rw [← hV6] at hba6
  have h45 := hb6.trans (hba6.mono hb6.size)
  have hn6 : V6.heap[w6.heap.size]? = some (.cells #[.int .i64 q.gen, .int .i64 q.app, .int .i64 q.next, .slice Qr qk qc] 24) := by rw [hV6]; exact heap_alloc_new _ _
  have HQ6 := Lib.hid hn6
  have HZQ6 : Hid (w6.heap.size < V6.heap.size) := (Array.getElem?_eq_some_iff.1 hn6).1
  have HB6 := Lib.hid (HB5.out.trans (h45.mono HB5.out.size))
  have HQR6 := Lib.hid (hqr.below hba6)
  have HQE := Lib.hid hq
  have HQN := Lib.hid hqn
  have HQK := Lib.hid hqk
  have HS6 := Lib.hid ((h45.block _ HZS5.out).trans HS5.out)
  have HZS6 := Lib.hid (Nat.lt_of_lt_of_le HZS5.out h45.size)
  have HP6 := Lib.hid ((h45.block _ HZP5.out).trans HP5.out)
  have HZP6 := Lib.hid (Nat.lt_of_lt_of_le HZP5.out h45.size)
  have HPR6 := Lib.hid (HPR5.out.below h45)
  have HX16 := Lib.hid (HX15.out.below h45)
  have HX26 := Lib.hid (HX25.out.below h45)
  have HC6 := Lib.hid ((readm_calls E n ca xs V6 (HX.out.below HB6.out) HBY.out (by omega) HNC.out HCM.out).mono fun _ _ => readB_of)
  clear hb6 hba6 h45 hn6 hq hqr hqn hqk HS5 HP5 HPR5 HX15 HX25
  go_wp2_with fail
  rw [← hV6]
  clear hV6
  refine HC6.out.mono ?_
  clear HC6
  rintro e w7 ⟨hb7, u, Ur, uk, uc, hu, rfl, hur, hun, huk⟩
  have hba7 : Below w7.heap.size w7 (w7.alloc (.cells #[.int .i64 u.gen, .int .i64 u.app, .int .i64 u.next, .slice Ur uk uc] 29)) := (Below.refl _ _).alloc (Nat.le_refl _) _
  obtain ⟨V7, hV7⟩ : ∃ V7, V7 = w7.alloc (.cells #[.int .i64 u.gen, .int .i64 u.app, .int .i64 u.next, .slice Ur uk uc] 29) := ⟨_, rfl⟩
  rw [← hV7] at hba7
  have h45 := hb7.trans (hba7.mono hb7.size)
  have hn7 : V7.heap[w7.heap.size]? = some (.cells #[.int .i64 u.gen, .int .i64 u.app, .int .i64 u.next, .slice Ur uk uc] 29) := by rw [hV7]; exact heap_alloc_new _ _
  have HU7 := Lib.hid hn7
  have HZU7 : Hid (w7.heap.size < V7.heap.size) := (Array.getElem?_eq_some_iff.1 hn7).1
  have HB7 := Lib.hid (HB6.out.trans (h45.mono HB6.out.size))
  have HUR7 := Lib.hid (hur.below hba7)
  have HUE := Lib.hid hu
  have HUN := Lib.hid hun
  have HUK := Lib.hid huk
  have HS7 := Lib.hid ((h45.block _ HZS6.out).trans HS6.out)
  have HZS7 := Lib.hid (Nat.lt_of_lt_of_le HZS6.out h45.size)
  have HP7 := Lib.hid ((h45.block _ HZP6.out).trans HP6.out)
  have HZP7 := Lib.hid (Nat.lt_of_lt_of_le HZP6.out h45.size)
  have HQ7 := Lib.hid ((h45.block _ HZQ6.out).trans HQ6.out)
  have HZQ7 := Lib.hid (Nat.lt_of_lt_of_le HZQ6.out h45.size)
  have HPR7 := Lib.hid (HPR6.out.below h45)
  have HQR7 := Lib.hid (HQR6.out.below h45)
  have HX17 := Lib.hid (HX16.out.below h45)
  have HX27 := Lib.hid (HX26.out.below h45)
  have HC7 := Lib.hid ((rreadm_calls E n ca xs V7 (HX.out.below HB7.out) HBY.out (by omega) HNC.out HCM.out).mono fun _ _ => readB_of)
  clear hb7 hba7 h45 hn7 hu hur hun huk HS6 HP6 HQ6 HPR6 HQR6 HX16 HX26
  go_wp2_with fail
  rw [← hV7]
  clear hV7
  refine HC7.out.mono ?_
  clear HC7
  rintro e w8 ⟨hb8, v, Vr, vk, vc, hv, rfl, hvr, hvn, hvk⟩
  have hba8 : Below w8.heap.size w8 (w8.alloc (.cells #[.int .i64 v.gen, .int .i64 v.app, .int .i64 v.next, .slice Vr vk vc] 24)) := (Below.refl _ _).alloc (Nat.le_refl _) _
  obtain ⟨V8, hV8⟩ : ∃ V8, V8 = w8.alloc (.cells #[.int .i64 v.gen, .int .i64 v.app, .int .i64 v.next, .slice Vr vk vc] 24) := ⟨_, rfl⟩
  rw [← hV8] at hba8
  have h45 := hb8.trans (hba8.mono hb8.size)
  have hn8 : V8.heap[w8.heap.size]? = some (.cells #[.int .i64 v.gen, .int .i64 v.app, .int .i64 v.next, .slice Vr vk vc] 24) := by rw [hV8]; exact heap_alloc_new _ _
  have HV8 := Lib.hid hn8
  have HZV8 : Hid (w8.heap.size < V8.heap.size) := (Array.getElem?_eq_some_iff.1 hn8).1
  have HB8 := Lib.hid (HB7.out.trans (h45.mono HB7.out.size))
  have HVR8 := Lib.hid (hvr.below hba8)
  have HVE := Lib.hid hv
  have HVN := Lib.hid hvn
  have HVK := Lib.hid hvk
  have HS8 := Lib.hid ((h45.block _ HZS7.out).trans HS7.out)
  have HZS8 := Lib.hid (Nat.lt_of_lt_of_le HZS7.out h45.size)
  have HP8 := Lib.hid ((h45.block _ HZP7.out).trans HP7.out)
  have HZP8 := Lib.hid (Nat.lt_of_lt_of_le HZP7.out h45.size)
  have HQ8 := Lib.hid ((h45.block _ HZQ7.out).trans HQ7.out)
  have HZQ8 := Lib.hid (Nat.lt_of_lt_of_le HZQ7.out h45.size)
  have HU8 := Lib.hid ((h45.block _ HZU7.out).trans HU7.out)
  have HZU8 := Lib.hid (Nat.lt_of_lt_of_le HZU7.out h45.size)
  have HPR8 := Lib.hid (HPR7.out.below h45)
  have HQR8 := Lib.hid (HQR7.out.below h45)
  have HUR8 := Lib.hid (HUR7.out.below h45)
  have HX18 := Lib.hid (HX17.out.below h45)
  have HX28 := Lib.hid (HX27.out.below h45)
  clear hb8 hba8 h45 hn8 hv hvr hvn hvk HS7 HP7 HQ7 HU7 HPR7 HQR7 HUR7 HX17 HX27
  obtain ⟨rb, hrb⟩ : ∃ rb, rb = rightS s := ⟨_, rfl⟩
  obtain ⟨db, hdb⟩ : ∃ db, db = (decS xs).isSome := ⟨_, rfl⟩
  obtain ⟨rn, hrn⟩ : ∃ rn, rn = readN xs := ⟨_, rfl⟩
  obtain ⟨re, hre⟩ : ∃ re, re = readE xs := ⟨_, rfl⟩
  have hpq : decide (p = q) = true := decide_eq_true (HPE.out.trans HQE.out.symm)
  have huv : decide (u = v) = true := decide_eq_true (HUE.out.trans HVE.out.symm)
  have HOF : Hid (∀ W, Below V8.heap.size V8 W → Calls Try.prog 9 #[s.v A k c] W fun e w' => ∃ g cap, e = .returned (s.v (some ⟨g, 0, none⟩) k cap) ∧ OwnN w' W.heap.size (some ⟨g, 0, none⟩) k cap s.tabs ∧ Below W.heap.size W w') := fun W hW => of_calls s A k c W ((HH.out.below HB8.out).below hW) HAN.out (by omega)
  have HRM : Hid (∀ W g mc, RdN W (some ⟨g, 0, none⟩) k s.tabs → Calls Try.prog 15 #[s.v (some ⟨g, 0, none⟩) k mc] W fun e w' => e = .returned (.bool rb) ∧ Below W.heap.size W w') := fun W g mc hr => by rw [hrb]; exact right_calls s (some ⟨g, 0, none⟩) k mc W hr (by omega)
  have HRR : Hid (∀ W, Below V8.heap.size V8 W → Calls Try.prog 16 #[s.v A k c] W fun e w' => e = .returned (.bool rb) ∧ Below W.heap.size W w') := fun W hW => by rw [hrb]; exact rright_calls s A k c W ((HH.out.below HB8.out).below hW) (by omega)
  have HSB : Hid (∀ W, Below V8.heap.size V8 W → Calls Try.prog 17 #[.slice X1 m1 c1, .slice X2 m2 c2] W fun e w' => e = .returned (.bool true) ∧ Below W.heap.size W w') := fun W hW => (sameb_calls X1 X2 m1 m2 c1 c2 (encO s) (encO s) W (HX18.out.below hW) (HX28.out.below hW) (by have := HX18.out.len; have := encO_len s; omega) (by have := HX28.out.len; have := encO_len s; omega)).mono fun e w' ⟨h1, q, h2⟩ => ⟨by rw [h1, decide_eq_true rfl], by rw [h2]; exact drewN_below W q⟩
  have HSP : Hid (∀ W, Below V8.heap.size V8 W → Calls Try.prog 18 #[p.v P pk pc, q.v Qr qk qc] W fun e w' => e = .returned (.bool true) ∧ Below W.heap.size W w') := fun W hW => by rw [← hpq]; exact same_calls p q P Qr pk qk pc qc W (HPR8.out.below hW) (HQR8.out.below hW) HQN.out (by have := HPK.out; omega) (by have := HQK.out; omega)
  have HSU : Hid (∀ W, Below V8.heap.size V8 W → Calls Try.prog 18 #[u.v Ur uk uc, v.v Vr vk vc] W fun e w' => e = .returned (.bool true) ∧ Below W.heap.size W w') := fun W hW => by rw [← huv]; exact same_calls u v Ur Vr uk vk uc vc W (HUR8.out.below hW) (HVR8.out.below hW) HVN.out (by have := HUK.out; omega) (by have := HVK.out; omega)
  have HKA : Hid (∀ (W : World) (o : Obj), (W.cell? ⟨w.heap.size, 0, none⟩ = some (.int .i64 s.gen) ∧ W.cell? ⟨w.heap.size, 1, none⟩ = some (.int .i64 s.app) ∧ W.cell? ⟨w.heap.size, 2, none⟩ = some (.int .i64 s.next) ∧ W.cell? ⟨w.heap.size, 3, none⟩ = some (.slice A k c) ∧ W.cell? ⟨w5.heap.size, 0, none⟩ = some (.int .i64 p.gen) ∧ W.cell? ⟨w5.heap.size, 1, none⟩ = some (.int .i64 p.app) ∧ W.cell? ⟨w5.heap.size, 2, none⟩ = some (.int .i64 p.next) ∧ W.cell? ⟨w5.heap.size, 3, none⟩ = some (.slice P pk pc) ∧ W.cell? ⟨w6.heap.size, 0, none⟩ = some (.int .i64 q.gen) ∧ W.cell? ⟨w6.heap.size, 1, none⟩ = some (.int .i64 q.app) ∧ W.cell? ⟨w6.heap.size, 2, none⟩ = some (.int .i64 q.next) ∧ W.cell? ⟨w6.heap.size, 3, none⟩ = some (.slice Qr qk qc) ∧ W.cell? ⟨w7.heap.size, 0, none⟩ = some (.int .i64 u.gen) ∧ W.cell? ⟨w7.heap.size, 1, none⟩ = some (.int .i64 u.app) ∧ W.cell? ⟨w7.heap.size, 2, none⟩ = some (.int .i64 u.next) ∧ W.cell? ⟨w7.heap.size, 3, none⟩ = some (.slice Ur uk uc) ∧ W.cell? ⟨w8.heap.size, 0, none⟩ = some (.int .i64 v.gen) ∧ W.cell? ⟨w8.heap.size, 1, none⟩ = some (.int .i64 v.app) ∧ W.cell? ⟨w8.heap.size, 2, none⟩ = some (.int .i64 v.next) ∧ W.cell? ⟨w8.heap.size, 3, none⟩ = some (.slice Vr vk vc) ∧ Below V8.heap.size V8 W) → ((W.alloc o).cell? ⟨w.heap.size, 0, none⟩ = some (.int .i64 s.gen) ∧ (W.alloc o).cell? ⟨w.heap.size, 1, none⟩ = some (.int .i64 s.app) ∧ (W.alloc o).cell? ⟨w.heap.size, 2, none⟩ = some (.int .i64 s.next) ∧ (W.alloc o).cell? ⟨w.heap.size, 3, none⟩ = some (.slice A k c) ∧ (W.alloc o).cell? ⟨w5.heap.size, 0, none⟩ = some (.int .i64 p.gen) ∧ (W.alloc o).cell? ⟨w5.heap.size, 1, none⟩ = some (.int .i64 p.app) ∧ (W.alloc o).cell? ⟨w5.heap.size, 2, none⟩ = some (.int .i64 p.next) ∧ (W.alloc o).cell? ⟨w5.heap.size, 3, none⟩ = some (.slice P pk pc) ∧ (W.alloc o).cell? ⟨w6.heap.size, 0, none⟩ = some (.int .i64 q.gen) ∧ (W.alloc o).cell? ⟨w6.heap.size, 1, none⟩ = some (.int .i64 q.app) ∧ (W.alloc o).cell? ⟨w6.heap.size, 2, none⟩ = some (.int .i64 q.next) ∧ (W.alloc o).cell? ⟨w6.heap.size, 3, none⟩ = some (.slice Qr qk qc) ∧ (W.alloc o).cell? ⟨w7.heap.size, 0, none⟩ = some (.int .i64 u.gen) ∧ (W.alloc o).cell? ⟨w7.heap.size, 1, none⟩ = some (.int .i64 u.app) ∧ (W.alloc o).cell? ⟨w7.heap.size, 2, none⟩ = some (.int .i64 u.next) ∧ (W.alloc o).cell? ⟨w7.heap.size, 3, none⟩ = some (.slice Ur uk uc) ∧ (W.alloc o).cell? ⟨w8.heap.size, 0, none⟩ = some (.int .i64 v.gen) ∧ (W.alloc o).cell? ⟨w8.heap.size, 1, none⟩ = some (.int .i64 v.app) ∧ (W.alloc o).cell? ⟨w8.heap.size, 2, none⟩ = some (.int .i64 v.next) ∧ (W.alloc o).cell? ⟨w8.heap.size, 3, none⟩ = some (.slice Vr vk vc) ∧ Below V8.heap.size V8 (W.alloc o))) := fun W o h => by
    have hb := (Below.refl W.heap.size W).alloc (Nat.le_refl _) o
    exact ⟨below_cell hb (Nat.le_refl _) (h.1), below_cell hb (Nat.le_refl _) (h.2.1), below_cell hb (Nat.le_refl _) (h.2.2.1), below_cell hb (Nat.le_refl _) (h.2.2.2.1), below_cell hb (Nat.le_refl _) (h.2.2.2.2.1), below_cell hb (Nat.le_refl _) (h.2.2.2.2.2.1), below_cell hb (Nat.le_refl _) (h.2.2.2.2.2.2.1), below_cell hb (Nat.le_refl _) (h.2.2.2.2.2.2.2.1), below_cell hb (Nat.le_refl _) (h.2.2.2.2.2.2.2.2.1), below_cell hb (Nat.le_refl _) (h.2.2.2.2.2.2.2.2.2.1), below_cell hb (Nat.le_refl _) (h.2.2.2.2.2.2.2.2.2.2.1), below_cell hb (Nat.le_refl _) (h.2.2.2.2.2.2.2.2.2.2.2.1), below_cell hb (Nat.le_refl _) (h.2.2.2.2.2.2.2.2.2.2.2.2.1), below_cell hb (Nat.le_refl _) (h.2.2.2.2.2.2.2.2.2.2.2.2.2.1), below_cell hb (Nat.le_refl _) (h.2.2.2.2.2.2.2.2.2.2.2.2.2.2.1), below_cell hb (Nat.le_refl _) (h.2.2.2.2.2.2.2.2.2.2.2.2.2.2.2.1), below_cell hb (Nat.le_refl _) (h.2.2.2.2.2.2.2.2.2.2.2.2.2.2.2.2.1), below_cell hb (Nat.le_refl _) (h.2.2.2.2.2.2.2.2.2.2.2.2.2.2.2.2.2.1), below_cell hb (Nat.le_refl _) (h.2.2.2.2.2.2.2.2.2.2.2.2.2.2.2.2.2.2.1), below_cell hb (Nat.le_refl _) (h.2.2.2.2.2.2.2.2.2.2.2.2.2.2.2.2.2.2.2.1), (h.2.2.2.2.2.2.2.2.2.2.2.2.2.2.2.2.2.2.2.2).alloc (h.2.2.2.2.2.2.2.2.2.2.2.2.2.2.2.2.2.2.2.2).size o⟩
  have HKC : Hid (∀ (W w' : World), (W.cell? ⟨w.heap.size, 0, none⟩ = some (.int .i64 s.gen) ∧ W.cell? ⟨w.heap.size, 1, none⟩ = some (.int .i64 s.app) ∧ W.cell? ⟨w.heap.size, 2, none⟩ = some (.int .i64 s.next) ∧ W.cell? ⟨w.heap.size, 3, none⟩ = some (.slice A k c) ∧ W.cell? ⟨w5.heap.size, 0, none⟩ = some (.int .i64 p.gen) ∧ W.cell? ⟨w5.heap.size, 1, none⟩ = some (.int .i64 p.app) ∧ W.cell? ⟨w5.heap.size, 2, none⟩ = some (.int .i64 p.next) ∧ W.cell? ⟨w5.heap.size, 3, none⟩ = some (.slice P pk pc) ∧ W.cell? ⟨w6.heap.size, 0, none⟩ = some (.int .i64 q.gen) ∧ W.cell? ⟨w6.heap.size, 1, none⟩ = some (.int .i64 q.app) ∧ W.cell? ⟨w6.heap.size, 2, none⟩ = some (.int .i64 q.next) ∧ W.cell? ⟨w6.heap.size, 3, none⟩ = some (.slice Qr qk qc) ∧ W.cell? ⟨w7.heap.size, 0, none⟩ = some (.int .i64 u.gen) ∧ W.cell? ⟨w7.heap.size, 1, none⟩ = some (.int .i64 u.app) ∧ W.cell? ⟨w7.heap.size, 2, none⟩ = some (.int .i64 u.next) ∧ W.cell? ⟨w7.heap.size, 3, none⟩ = some (.slice Ur uk uc) ∧ W.cell? ⟨w8.heap.size, 0, none⟩ = some (.int .i64 v.gen) ∧ W.cell? ⟨w8.heap.size, 1, none⟩ = some (.int .i64 v.app) ∧ W.cell? ⟨w8.heap.size, 2, none⟩ = some (.int .i64 v.next) ∧ W.cell? ⟨w8.heap.size, 3, none⟩ = some (.slice Vr vk vc) ∧ Below V8.heap.size V8 W) → Below W.heap.size W w' → (w'.cell? ⟨w.heap.size, 0, none⟩ = some (.int .i64 s.gen) ∧ w'.cell? ⟨w.heap.size, 1, none⟩ = some (.int .i64 s.app) ∧ w'.cell? ⟨w.heap.size, 2, none⟩ = some (.int .i64 s.next) ∧ w'.cell? ⟨w.heap.size, 3, none⟩ = some (.slice A k c) ∧ w'.cell? ⟨w5.heap.size, 0, none⟩ = some (.int .i64 p.gen) ∧ w'.cell? ⟨w5.heap.size, 1, none⟩ = some (.int .i64 p.app) ∧ w'.cell? ⟨w5.heap.size, 2, none⟩ = some (.int .i64 p.next) ∧ w'.cell? ⟨w5.heap.size, 3, none⟩ = some (.slice P pk pc) ∧ w'.cell? ⟨w6.heap.size, 0, none⟩ = some (.int .i64 q.gen) ∧ w'.cell? ⟨w6.heap.size, 1, none⟩ = some (.int .i64 q.app) ∧ w'.cell? ⟨w6.heap.size, 2, none⟩ = some (.int .i64 q.next) ∧ w'.cell? ⟨w6.heap.size, 3, none⟩ = some (.slice Qr qk qc) ∧ w'.cell? ⟨w7.heap.size, 0, none⟩ = some (.int .i64 u.gen) ∧ w'.cell? ⟨w7.heap.size, 1, none⟩ = some (.int .i64 u.app) ∧ w'.cell? ⟨w7.heap.size, 2, none⟩ = some (.int .i64 u.next) ∧ w'.cell? ⟨w7.heap.size, 3, none⟩ = some (.slice Ur uk uc) ∧ w'.cell? ⟨w8.heap.size, 0, none⟩ = some (.int .i64 v.gen) ∧ w'.cell? ⟨w8.heap.size, 1, none⟩ = some (.int .i64 v.app) ∧ w'.cell? ⟨w8.heap.size, 2, none⟩ = some (.int .i64 v.next) ∧ w'.cell? ⟨w8.heap.size, 3, none⟩ = some (.slice Vr vk vc) ∧ Below V8.heap.size V8 w')) := fun W w' h hb =>
    ⟨below_cell hb (Nat.le_refl _) (h.1), below_cell hb (Nat.le_refl _) (h.2.1), below_cell hb (Nat.le_refl _) (h.2.2.1), below_cell hb (Nat.le_refl _) (h.2.2.2.1), below_cell hb (Nat.le_refl _) (h.2.2.2.2.1), below_cell hb (Nat.le_refl _) (h.2.2.2.2.2.1), below_cell hb (Nat.le_refl _) (h.2.2.2.2.2.2.1), below_cell hb (Nat.le_refl _) (h.2.2.2.2.2.2.2.1), below_cell hb (Nat.le_refl _) (h.2.2.2.2.2.2.2.2.1), below_cell hb (Nat.le_refl _) (h.2.2.2.2.2.2.2.2.2.1), below_cell hb (Nat.le_refl _) (h.2.2.2.2.2.2.2.2.2.2.1), below_cell hb (Nat.le_refl _) (h.2.2.2.2.2.2.2.2.2.2.2.1), below_cell hb (Nat.le_refl _) (h.2.2.2.2.2.2.2.2.2.2.2.2.1), below_cell hb (Nat.le_refl _) (h.2.2.2.2.2.2.2.2.2.2.2.2.2.1), below_cell hb (Nat.le_refl _) (h.2.2.2.2.2.2.2.2.2.2.2.2.2.2.1), below_cell hb (Nat.le_refl _) (h.2.2.2.2.2.2.2.2.2.2.2.2.2.2.2.1), below_cell hb (Nat.le_refl _) (h.2.2.2.2.2.2.2.2.2.2.2.2.2.2.2.2.1), below_cell hb (Nat.le_refl _) (h.2.2.2.2.2.2.2.2.2.2.2.2.2.2.2.2.2.1), below_cell hb (Nat.le_refl _) (h.2.2.2.2.2.2.2.2.2.2.2.2.2.2.2.2.2.2.1), below_cell hb (Nat.le_refl _) (h.2.2.2.2.2.2.2.2.2.2.2.2.2.2.2.2.2.2.2.1), (h.2.2.2.2.2.2.2.2.2.2.2.2.2.2.2.2.2.2.2.2).trans (hb.mono (h.2.2.2.2.2.2.2.2.2.2.2.2.2.2.2.2.2.2.2.2).size)⟩
  obtain ⟨s0, s1, s2, s3, _⟩ := box4 HS8.out
  obtain ⟨p0, p1, p2, p3, _⟩ := box4 HP8.out
  obtain ⟨q0, q1, q2, q3, _⟩ := box4 HQ8.out
  obtain ⟨u0, u1, u2, u3, _⟩ := box4 HU8.out
  obtain ⟨v0, v1, v2, v3, _⟩ := box4 HV8.out
  have HL : Hid (V8.drew.cell? ⟨w.heap.size, 0, none⟩ = some (.int .i64 s.gen) ∧ V8.drew.cell? ⟨w.heap.size, 1, none⟩ = some (.int .i64 s.app) ∧ V8.drew.cell? ⟨w.heap.size, 2, none⟩ = some (.int .i64 s.next) ∧ V8.drew.cell? ⟨w.heap.size, 3, none⟩ = some (.slice A k c) ∧ V8.drew.cell? ⟨w5.heap.size, 0, none⟩ = some (.int .i64 p.gen) ∧ V8.drew.cell? ⟨w5.heap.size, 1, none⟩ = some (.int .i64 p.app) ∧ V8.drew.cell? ⟨w5.heap.size, 2, none⟩ = some (.int .i64 p.next) ∧ V8.drew.cell? ⟨w5.heap.size, 3, none⟩ = some (.slice P pk pc) ∧ V8.drew.cell? ⟨w6.heap.size, 0, none⟩ = some (.int .i64 q.gen) ∧ V8.drew.cell? ⟨w6.heap.size, 1, none⟩ = some (.int .i64 q.app) ∧ V8.drew.cell? ⟨w6.heap.size, 2, none⟩ = some (.int .i64 q.next) ∧ V8.drew.cell? ⟨w6.heap.size, 3, none⟩ = some (.slice Qr qk qc) ∧ V8.drew.cell? ⟨w7.heap.size, 0, none⟩ = some (.int .i64 u.gen) ∧ V8.drew.cell? ⟨w7.heap.size, 1, none⟩ = some (.int .i64 u.app) ∧ V8.drew.cell? ⟨w7.heap.size, 2, none⟩ = some (.int .i64 u.next) ∧ V8.drew.cell? ⟨w7.heap.size, 3, none⟩ = some (.slice Ur uk uc) ∧ V8.drew.cell? ⟨w8.heap.size, 0, none⟩ = some (.int .i64 v.gen) ∧ V8.drew.cell? ⟨w8.heap.size, 1, none⟩ = some (.int .i64 v.app) ∧ V8.drew.cell? ⟨w8.heap.size, 2, none⟩ = some (.int .i64 v.next) ∧ V8.drew.cell? ⟨w8.heap.size, 3, none⟩ = some (.slice Vr vk vc) ∧ Below V8.heap.size V8 V8.drew) := ⟨s0, s1, s2, s3, p0, p1, p2, p3, q0, q1, q2, q3, u0, u1, u2, u3, v0, v1, v2, v3, below_drew1 V8⟩
  rw [← hrb, ← hdb, ← hrn, ← hre]
  clear hrb hdb hrn hre hpq huv HS8 HP8 HQ8 HU8 HV8 HX18 HX28 HPR8 HQR8 HUR8 HVR8
  go_wp2_with fail
  rw [← hV8]
  clear hV8
  first | (go_region_held3 (fun w' => (w'.cell? ⟨w.heap.size, 0, none⟩ = some (.int .i64 s.gen) ∧ w'.cell? ⟨w.heap.size, 1, none⟩ = some (.int .i64 s.app) ∧ w'.cell? ⟨w.heap.size, 2, none⟩ = some (.int .i64 s.next) ∧ w'.cell? ⟨w.heap.size, 3, none⟩ = some (.slice A k c) ∧ w'.cell? ⟨w5.heap.size, 0, none⟩ = some (.int .i64 p.gen) ∧ w'.cell? ⟨w5.heap.size, 1, none⟩ = some (.int .i64 p.app) ∧ w'.cell? ⟨w5.heap.size, 2, none⟩ = some (.int .i64 p.next) ∧ w'.cell? ⟨w5.heap.size, 3, none⟩ = some (.slice P pk pc) ∧ w'.cell? ⟨w6.heap.size, 0, none⟩ = some (.int .i64 q.gen) ∧ w'.cell? ⟨w6.heap.size, 1, none⟩ = some (.int .i64 q.app) ∧ w'.cell? ⟨w6.heap.size, 2, none⟩ = some (.int .i64 q.next) ∧ w'.cell? ⟨w6.heap.size, 3, none⟩ = some (.slice Qr qk qc) ∧ w'.cell? ⟨w7.heap.size, 0, none⟩ = some (.int .i64 u.gen) ∧ w'.cell? ⟨w7.heap.size, 1, none⟩ = some (.int .i64 u.app) ∧ w'.cell? ⟨w7.heap.size, 2, none⟩ = some (.int .i64 u.next) ∧ w'.cell? ⟨w7.heap.size, 3, none⟩ = some (.slice Ur uk uc) ∧ w'.cell? ⟨w8.heap.size, 0, none⟩ = some (.int .i64 v.gen) ∧ w'.cell? ⟨w8.heap.size, 1, none⟩ = some (.int .i64 v.app) ∧ w'.cell? ⟨w8.heap.size, 2, none⟩ = some (.int .i64 v.next) ∧ w'.cell? ⟨w8.heap.size, 3, none⟩ = some (.slice Vr vk vc) ∧ Below V8.heap.size V8 w')) (first | exact HL.out | (with_reducible exact HT3.out) | (with_reducible exact HT4.out) | (with_reducible exact HT5.out) | (with_reducible exact HT6.out) | (with_reducible exact HT7.out) | (with_reducible exact HT8.out) | exact HKA.out V8.drew _ HL.out) (first
    | (go_at_call 9; refine (HOF.out _ (by have h : _ ∧ _ ∧ _ ∧ _ ∧ _ ∧ _ ∧ _ ∧ _ ∧ _ ∧ _ ∧ _ ∧ _ ∧ _ ∧ _ ∧ _ ∧ _ ∧ _ ∧ _ ∧ _ ∧ _ ∧ Below V8.heap.size V8 _ := (by assumption); exact h.2.2.2.2.2.2.2.2.2.2.2.2.2.2.2.2.2.2.2.2)).mono ?_; rintro e y3 ⟨g9, mc9, rfl, ho3, hb3⟩; have HT3 : Hid (y3.cell? ⟨w.heap.size, 0, none⟩ = some (.int .i64 s.gen) ∧ y3.cell? ⟨w.heap.size, 1, none⟩ = some (.int .i64 s.app) ∧ y3.cell? ⟨w.heap.size, 2, none⟩ = some (.int .i64 s.next) ∧ y3.cell? ⟨w.heap.size, 3, none⟩ = some (.slice A k c) ∧ y3.cell? ⟨w5.heap.size, 0, none⟩ = some (.int .i64 p.gen) ∧ y3.cell? ⟨w5.heap.size, 1, none⟩ = some (.int .i64 p.app) ∧ y3.cell? ⟨w5.heap.size, 2, none⟩ = some (.int .i64 p.next) ∧ y3.cell? ⟨w5.heap.size, 3, none⟩ = some (.slice P pk pc) ∧ y3.cell? ⟨w6.heap.size, 0, none⟩ = some (.int .i64 q.gen) ∧ y3.cell? ⟨w6.heap.size, 1, none⟩ = some (.int .i64 q.app) ∧ y3.cell? ⟨w6.heap.size, 2, none⟩ = some (.int .i64 q.next) ∧ y3.cell? ⟨w6.heap.size, 3, none⟩ = some (.slice Qr qk qc) ∧ y3.cell? ⟨w7.heap.size, 0, none⟩ = some (.int .i64 u.gen) ∧ y3.cell? ⟨w7.heap.size, 1, none⟩ = some (.int .i64 u.app) ∧ y3.cell? ⟨w7.heap.size, 2, none⟩ = some (.int .i64 u.next) ∧ y3.cell? ⟨w7.heap.size, 3, none⟩ = some (.slice Ur uk uc) ∧ y3.cell? ⟨w8.heap.size, 0, none⟩ = some (.int .i64 v.gen) ∧ y3.cell? ⟨w8.heap.size, 1, none⟩ = some (.int .i64 v.app) ∧ y3.cell? ⟨w8.heap.size, 2, none⟩ = some (.int .i64 v.next) ∧ y3.cell? ⟨w8.heap.size, 3, none⟩ = some (.slice Vr vk vc) ∧ Below V8.heap.size V8 y3) := HKC.out _ _ (by assumption) hb3; have HO3 := Lib.hid (ho3.rd encN_len); clear hb3 ho3)
    | (go_at_call 15; refine (HRM.out _ _ _ HO3.out).mono ?_; rintro e y4 ⟨rfl, hb4⟩; have HT4 : Hid (y4.cell? ⟨w.heap.size, 0, none⟩ = some (.int .i64 s.gen) ∧ y4.cell? ⟨w.heap.size, 1, none⟩ = some (.int .i64 s.app) ∧ y4.cell? ⟨w.heap.size, 2, none⟩ = some (.int .i64 s.next) ∧ y4.cell? ⟨w.heap.size, 3, none⟩ = some (.slice A k c) ∧ y4.cell? ⟨w5.heap.size, 0, none⟩ = some (.int .i64 p.gen) ∧ y4.cell? ⟨w5.heap.size, 1, none⟩ = some (.int .i64 p.app) ∧ y4.cell? ⟨w5.heap.size, 2, none⟩ = some (.int .i64 p.next) ∧ y4.cell? ⟨w5.heap.size, 3, none⟩ = some (.slice P pk pc) ∧ y4.cell? ⟨w6.heap.size, 0, none⟩ = some (.int .i64 q.gen) ∧ y4.cell? ⟨w6.heap.size, 1, none⟩ = some (.int .i64 q.app) ∧ y4.cell? ⟨w6.heap.size, 2, none⟩ = some (.int .i64 q.next) ∧ y4.cell? ⟨w6.heap.size, 3, none⟩ = some (.slice Qr qk qc) ∧ y4.cell? ⟨w7.heap.size, 0, none⟩ = some (.int .i64 u.gen) ∧ y4.cell? ⟨w7.heap.size, 1, none⟩ = some (.int .i64 u.app) ∧ y4.cell? ⟨w7.heap.size, 2, none⟩ = some (.int .i64 u.next) ∧ y4.cell? ⟨w7.heap.size, 3, none⟩ = some (.slice Ur uk uc) ∧ y4.cell? ⟨w8.heap.size, 0, none⟩ = some (.int .i64 v.gen) ∧ y4.cell? ⟨w8.heap.size, 1, none⟩ = some (.int .i64 v.app) ∧ y4.cell? ⟨w8.heap.size, 2, none⟩ = some (.int .i64 v.next) ∧ y4.cell? ⟨w8.heap.size, 3, none⟩ = some (.slice Vr vk vc) ∧ Below V8.heap.size V8 y4) := HKC.out _ _ (by assumption) hb4; clear hb4)
    | (go_at_call 16; refine (HRR.out _ (by have h : _ ∧ _ ∧ _ ∧ _ ∧ _ ∧ _ ∧ _ ∧ _ ∧ _ ∧ _ ∧ _ ∧ _ ∧ _ ∧ _ ∧ _ ∧ _ ∧ _ ∧ _ ∧ _ ∧ _ ∧ Below V8.heap.size V8 _ := (by assumption); exact h.2.2.2.2.2.2.2.2.2.2.2.2.2.2.2.2.2.2.2.2)).mono ?_; rintro e y5 ⟨rfl, hb5⟩; have HT5 : Hid (y5.cell? ⟨w.heap.size, 0, none⟩ = some (.int .i64 s.gen) ∧ y5.cell? ⟨w.heap.size, 1, none⟩ = some (.int .i64 s.app) ∧ y5.cell? ⟨w.heap.size, 2, none⟩ = some (.int .i64 s.next) ∧ y5.cell? ⟨w.heap.size, 3, none⟩ = some (.slice A k c) ∧ y5.cell? ⟨w5.heap.size, 0, none⟩ = some (.int .i64 p.gen) ∧ y5.cell? ⟨w5.heap.size, 1, none⟩ = some (.int .i64 p.app) ∧ y5.cell? ⟨w5.heap.size, 2, none⟩ = some (.int .i64 p.next) ∧ y5.cell? ⟨w5.heap.size, 3, none⟩ = some (.slice P pk pc) ∧ y5.cell? ⟨w6.heap.size, 0, none⟩ = some (.int .i64 q.gen) ∧ y5.cell? ⟨w6.heap.size, 1, none⟩ = some (.int .i64 q.app) ∧ y5.cell? ⟨w6.heap.size, 2, none⟩ = some (.int .i64 q.next) ∧ y5.cell? ⟨w6.heap.size, 3, none⟩ = some (.slice Qr qk qc) ∧ y5.cell? ⟨w7.heap.size, 0, none⟩ = some (.int .i64 u.gen) ∧ y5.cell? ⟨w7.heap.size, 1, none⟩ = some (.int .i64 u.app) ∧ y5.cell? ⟨w7.heap.size, 2, none⟩ = some (.int .i64 u.next) ∧ y5.cell? ⟨w7.heap.size, 3, none⟩ = some (.slice Ur uk uc) ∧ y5.cell? ⟨w8.heap.size, 0, none⟩ = some (.int .i64 v.gen) ∧ y5.cell? ⟨w8.heap.size, 1, none⟩ = some (.int .i64 v.app) ∧ y5.cell? ⟨w8.heap.size, 2, none⟩ = some (.int .i64 v.next) ∧ y5.cell? ⟨w8.heap.size, 3, none⟩ = some (.slice Vr vk vc) ∧ Below V8.heap.size V8 y5) := HKC.out _ _ (by assumption) hb5; clear hb5)
    | (go_at_call 17; refine (HSB.out _ (by have h : _ ∧ _ ∧ _ ∧ _ ∧ _ ∧ _ ∧ _ ∧ _ ∧ _ ∧ _ ∧ _ ∧ _ ∧ _ ∧ _ ∧ _ ∧ _ ∧ _ ∧ _ ∧ _ ∧ _ ∧ Below V8.heap.size V8 _ := (by assumption); exact h.2.2.2.2.2.2.2.2.2.2.2.2.2.2.2.2.2.2.2.2)).mono ?_; rintro e y6 ⟨rfl, hb6⟩; have HT6 : Hid (y6.cell? ⟨w.heap.size, 0, none⟩ = some (.int .i64 s.gen) ∧ y6.cell? ⟨w.heap.size, 1, none⟩ = some (.int .i64 s.app) ∧ y6.cell? ⟨w.heap.size, 2, none⟩ = some (.int .i64 s.next) ∧ y6.cell? ⟨w.heap.size, 3, none⟩ = some (.slice A k c) ∧ y6.cell? ⟨w5.heap.size, 0, none⟩ = some (.int .i64 p.gen) ∧ y6.cell? ⟨w5.heap.size, 1, none⟩ = some (.int .i64 p.app) ∧ y6.cell? ⟨w5.heap.size, 2, none⟩ = some (.int .i64 p.next) ∧ y6.cell? ⟨w5.heap.size, 3, none⟩ = some (.slice P pk pc) ∧ y6.cell? ⟨w6.heap.size, 0, none⟩ = some (.int .i64 q.gen) ∧ y6.cell? ⟨w6.heap.size, 1, none⟩ = some (.int .i64 q.app) ∧ y6.cell? ⟨w6.heap.size, 2, none⟩ = some (.int .i64 q.next) ∧ y6.cell? ⟨w6.heap.size, 3, none⟩ = some (.slice Qr qk qc) ∧ y6.cell? ⟨w7.heap.size, 0, none⟩ = some (.int .i64 u.gen) ∧ y6.cell? ⟨w7.heap.size, 1, none⟩ = some (.int .i64 u.app) ∧ y6.cell? ⟨w7.heap.size, 2, none⟩ = some (.int .i64 u.next) ∧ y6.cell? ⟨w7.heap.size, 3, none⟩ = some (.slice Ur uk uc) ∧ y6.cell? ⟨w8.heap.size, 0, none⟩ = some (.int .i64 v.gen) ∧ y6.cell? ⟨w8.heap.size, 1, none⟩ = some (.int .i64 v.app) ∧ y6.cell? ⟨w8.heap.size, 2, none⟩ = some (.int .i64 v.next) ∧ y6.cell? ⟨w8.heap.size, 3, none⟩ = some (.slice Vr vk vc) ∧ Below V8.heap.size V8 y6) := HKC.out _ _ (by assumption) hb6; clear hb6)
    | (go_at_call 18; have hguard := HT7.out; refine (HSU.out _ (by have h : _ ∧ _ ∧ _ ∧ _ ∧ _ ∧ _ ∧ _ ∧ _ ∧ _ ∧ _ ∧ _ ∧ _ ∧ _ ∧ _ ∧ _ ∧ _ ∧ _ ∧ _ ∧ _ ∧ _ ∧ Below V8.heap.size V8 _ := (by assumption); exact h.2.2.2.2.2.2.2.2.2.2.2.2.2.2.2.2.2.2.2.2)).mono ?_; rintro e y8 ⟨rfl, hb8⟩; have HT8 : Hid (y8.cell? ⟨w.heap.size, 0, none⟩ = some (.int .i64 s.gen) ∧ y8.cell? ⟨w.heap.size, 1, none⟩ = some (.int .i64 s.app) ∧ y8.cell? ⟨w.heap.size, 2, none⟩ = some (.int .i64 s.next) ∧ y8.cell? ⟨w.heap.size, 3, none⟩ = some (.slice A k c) ∧ y8.cell? ⟨w5.heap.size, 0, none⟩ = some (.int .i64 p.gen) ∧ y8.cell? ⟨w5.heap.size, 1, none⟩ = some (.int .i64 p.app) ∧ y8.cell? ⟨w5.heap.size, 2, none⟩ = some (.int .i64 p.next) ∧ y8.cell? ⟨w5.heap.size, 3, none⟩ = some (.slice P pk pc) ∧ y8.cell? ⟨w6.heap.size, 0, none⟩ = some (.int .i64 q.gen) ∧ y8.cell? ⟨w6.heap.size, 1, none⟩ = some (.int .i64 q.app) ∧ y8.cell? ⟨w6.heap.size, 2, none⟩ = some (.int .i64 q.next) ∧ y8.cell? ⟨w6.heap.size, 3, none⟩ = some (.slice Qr qk qc) ∧ y8.cell? ⟨w7.heap.size, 0, none⟩ = some (.int .i64 u.gen) ∧ y8.cell? ⟨w7.heap.size, 1, none⟩ = some (.int .i64 u.app) ∧ y8.cell? ⟨w7.heap.size, 2, none⟩ = some (.int .i64 u.next) ∧ y8.cell? ⟨w7.heap.size, 3, none⟩ = some (.slice Ur uk uc) ∧ y8.cell? ⟨w8.heap.size, 0, none⟩ = some (.int .i64 v.gen) ∧ y8.cell? ⟨w8.heap.size, 1, none⟩ = some (.int .i64 v.app) ∧ y8.cell? ⟨w8.heap.size, 2, none⟩ = some (.int .i64 v.next) ∧ y8.cell? ⟨w8.heap.size, 3, none⟩ = some (.slice Vr vk vc) ∧ Below V8.heap.size V8 y8) := HKC.out _ _ (by assumption) hb8; clear hb8 hguard)
    | (go_at_call 18; refine (HSP.out _ (by have h : _ ∧ _ ∧ _ ∧ _ ∧ _ ∧ _ ∧ _ ∧ _ ∧ _ ∧ _ ∧ _ ∧ _ ∧ _ ∧ _ ∧ _ ∧ _ ∧ _ ∧ _ ∧ _ ∧ _ ∧ Below V8.heap.size V8 _ := (by assumption); exact h.2.2.2.2.2.2.2.2.2.2.2.2.2.2.2.2.2.2.2.2)).mono ?_; rintro e y7 ⟨rfl, hb7⟩; have HT7 : Hid (y7.cell? ⟨w.heap.size, 0, none⟩ = some (.int .i64 s.gen) ∧ y7.cell? ⟨w.heap.size, 1, none⟩ = some (.int .i64 s.app) ∧ y7.cell? ⟨w.heap.size, 2, none⟩ = some (.int .i64 s.next) ∧ y7.cell? ⟨w.heap.size, 3, none⟩ = some (.slice A k c) ∧ y7.cell? ⟨w5.heap.size, 0, none⟩ = some (.int .i64 p.gen) ∧ y7.cell? ⟨w5.heap.size, 1, none⟩ = some (.int .i64 p.app) ∧ y7.cell? ⟨w5.heap.size, 2, none⟩ = some (.int .i64 p.next) ∧ y7.cell? ⟨w5.heap.size, 3, none⟩ = some (.slice P pk pc) ∧ y7.cell? ⟨w6.heap.size, 0, none⟩ = some (.int .i64 q.gen) ∧ y7.cell? ⟨w6.heap.size, 1, none⟩ = some (.int .i64 q.app) ∧ y7.cell? ⟨w6.heap.size, 2, none⟩ = some (.int .i64 q.next) ∧ y7.cell? ⟨w6.heap.size, 3, none⟩ = some (.slice Qr qk qc) ∧ y7.cell? ⟨w7.heap.size, 0, none⟩ = some (.int .i64 u.gen) ∧ y7.cell? ⟨w7.heap.size, 1, none⟩ = some (.int .i64 u.app) ∧ y7.cell? ⟨w7.heap.size, 2, none⟩ = some (.int .i64 u.next) ∧ y7.cell? ⟨w7.heap.size, 3, none⟩ = some (.slice Ur uk uc) ∧ y7.cell? ⟨w8.heap.size, 0, none⟩ = some (.int .i64 v.gen) ∧ y7.cell? ⟨w8.heap.size, 1, none⟩ = some (.int .i64 v.app) ∧ y7.cell? ⟨w8.heap.size, 2, none⟩ = some (.int .i64 v.next) ∧ y7.cell? ⟨w8.heap.size, 3, none⟩ = some (.slice Vr vk vc) ∧ Below V8.heap.size V8 y7) := HKC.out _ _ (by assumption) hb7; clear hb7))) | fail
  all_goals
    have HF := Lib.hid (HB8.out.trans (HT8.out.2.2.2.2.2.2.2.2.2.2.2.2.2.2.2.2.2.2.2.2.mono HB8.out.size))
    clear HT3 HT4 HT5 HT6 HT7 HT8 HO3 HKA HKC HL HOF HRM HRR HSB HSP HSU s0 s1 s2 s3 p0 p1 p2 p3 q0 q1 q2 q3 u0 u1 u2 u3 v0 v1 v2 v3
    go_wp2_with fail
    go_ret
    exact ⟨rfl, HF.out⟩
end Go.Proofs.Ytideokbaenkijaa
