/-
  manifest.Save.
-/
import Derived.Test.YtideokbaenkijaaMFollow
import Derived.Test.YtideokbaenkijaaMSwp
namespace Go.Proofs.Ytideokbaenkijaa
open Go.RowKit Go.Maps

theorem plus_out {S : Nat → Prop} {n k : Nat} (h : ¬ S k) (hk : k < n) : ¬ Plus S n k := fun h2 => h2.elim h fun h3 => Nat.not_le.2 hk h3
theorem own_low {α : Type} {E : TypeId} {sz : Nat} {enc : α → List Value} {w : World} {base n cap : Nat} {A : Option Addr} {xs : List α} (h : Own E sz enc w base A n cap xs) : ∀ a, A = some a → base ≤ a.block := fun a ha => by
  rcases h.shape with ⟨e, _⟩ | ⟨x, e, h2, _⟩
  · rw [e] at ha; cases ha
  · rw [e] at ha; injection ha with ha; subst ha; exact h2
theorem frame_len {s : StateD} (h : rightS s = true) : (frameL (bytesS s)).length ≤ 500 := by
  have h1 := bytesS_len h
  have h2 : (vlq (bytesS s).length).length ≤ 9 := vlq_small (by omega)
  unfold frameL
  rw [List.length_append, List.length_append, endL_len]
  omega
theorem save_set {S S1 : Nat → Prop} {n m k : Nat} (h1 : ∀ k, S1 k → S k) (h2 : n ≤ m) (h : Plus S1 m k) : Plus S n k := h.imp (h1 k) fun h => Nat.le_trans h2 h
theorem save_set' {S S1 : Nat → Prop} {n k : Nat} {m : Nat} (h1 : ∀ k, S1 k → S k) (_ : n ≤ m) (h : S1 k) : S k ∨ n ≤ k := .inl (h1 k h)
theorem save_set2 {S S1 : Nat → Prop} {n m l k : Nat} (h1 : ∀ k, S1 k → S k) (h2 : n ≤ m) (h3 : n ≤ l) (h : Plus (Plus S1 m) l k) : Plus S n k := by
  rcases h with h | h
  · exact save_set h1 h2 h
  · exact .inr (Nat.le_trans h3 h)
theorem save_set3 {S1 : Nat → Prop} {m l k : Nat} (_ : m ≤ l) (h : Plus S1 m k) : S1 k ∨ m ≤ k := h
theorem grew_swap {D D' : DiskD} {name : ByteArray} {ys : List Int} {ev : Int} (h : SwapR D name ys ev D') : Grew D D' 2 := by
  obtain ⟨new, D1, rfl, _, ⟨_, _, rfl⟩ | ⟨_, _, rfl⟩⟩ := h
  · exact (grew_remove D _).trans (grew_write _ _ ys new) (by omega)
  · exact ((grew_remove D _).trans (grew_write _ _ ys new) (Nat.le_refl _)).trans ((grew_sync _ _).trans (grew_rename _ _ _) (Nat.le_refl _)) (by omega)
/-- Write, then Sync, behind which Save returns. -/
def SaveOut (D : DiskD) (name : ByteArray) (s : StateD) (S : Nat → Prop) (w : World) (bd : Nat) (e : Ending) (w' : World) : Prop := DiskOut (SaveR D name s) S w bd e w'

set_option maxHeartbeats 1000000 in
set_option maxRecDepth 20000 in
theorem save_calls (S : Nat → Prop) (bd : Nat) (D : DiskD) (name : ByteArray) (s : StateD) (T : Option Addr) (k c : Nat) (w : World) (h : DiskAt S w bd D) (hok : D.Ok) (hs : name.size ≤ 1000) (ht : RdN w T k s.tabs) (hT : T = none → c = 0) (hk : k ≤ 1000000000)
    (hb : Bytes (bytesD D name)) (hn : (bytesD D name).length ≤ 1000000) (hl : D.loose.length ≤ 900000) (hf : D.files.length ≤ 900000) :
    Calls Try.prog 21 #[.pointer (some ⟨bd, 0, none⟩), .string name, s.v T k c] w (SaveOut D name s S w bd) := by
  obtain ⟨hbx, cv⟩ := one_box w (s.cells T k c) 29
  obtain ⟨W0, hW0⟩ : ∃ W0, W0 = w.alloc (.cells #[.int .i64 s.gen, .int .i64 s.app, .int .i64 s.next, .slice T k c] 29) := ⟨_, rfl⟩
  have hbx : Below w.heap.size w W0 := by rw [hW0]; exact hbx
  have hs0 : W0.heap[w.heap.size]? = some (.cells #[.int .i64 s.gen, .int .i64 s.app, .int .i64 s.next, .slice T k c] 29) := by rw [hW0]; exact heap_alloc_new _ _
  have hns : name.size ≤ maxLen := by unfold maxLen; omega
  obtain ⟨S1, hS1⟩ : ∃ S1 : Nat → Prop, S1 = fun k => S k ∧ k < w.heap.size := ⟨_, rfl⟩
  have hd1 : DiskAt S1 w bd D := by rw [hS1]; exact h.tight
  have HS1 : Hid (∀ k, S1 k → S k ∧ k < w.heap.size) := by unfold Hid; rw [hS1]; exact fun _ h => h
  clear hS1
  have HRD := Lib.hid (read_calls S1 bd D name W0 (hd1.below hbx) hok hns)
  have HD := Lib.hid (hd1.below hbx)
  have HOK := Lib.hid hok
  have HBX := Lib.hid hbx
  have HS0 := Lib.hid hs0
  have HT := Lib.hid (ht.below hbx)
  have HTN := Lib.hid hT
  have HBY := Lib.hid hb
  have HN := Lib.hid hn
  have HL := Lib.hid hl
  have HF := Lib.hid hf
  have HNS := Lib.hid hns
  have HWZ : Hid (w.heap.size < W0.heap.size) := by unfold Hid; rw [hW0]; simp
  clear h hok ht hT hb hn hl hf hbx hs0 hd1 cv hns
  go_enter Try.func21, Try.ntmps21
  go_wp2_with fail
  rw [← hW0]
  clear hW0
  refine HRD.out.mono ?_
  rintro e w1 ⟨⟨v, rfl, hv⟩, hb1⟩
  have hv2 : Bs w1 v W0.heap.size (bytesD D name) := hv
  have HROOM := Lib.hid hv2.room
  have HTOP := Lib.hid hv2.top
  obtain ⟨A, cap, rfl, hr, hA, hAb⟩ := hv2.is
  generalize (findD D.files name).isSome = b0
  obtain ⟨xs, hxs⟩ : ∃ xs, xs = bytesD D name := ⟨_, rfl⟩
  rw [← hxs] at hr HROOM HTOP HBY HN ⊢
  have HXS := Lib.hid hxs
  have hcap := HROOM.out _ _ _ rfl
  have hcm := HTOP.out _ _ _ rfl
  have HFO := Lib.hid (follows_calls A xs.length cap xs s T k c w1 hr HBY.out HN.out hcap hcm (HT.out.below hb1) HTN.out hk)
  obtain ⟨q0, q1, q2, q3, qf⟩ := box4 ((hb1.block _ HWZ.out).trans HS0.out)
  have HD1 := Lib.hid (HD.out.below hb1)
  have HB1 := Lib.hid (HBX.out.trans (hb1.mono HBX.out.size))
  have HR := Lib.hid hr
  have HAB := Lib.hid hAb
  have HAN := Lib.hid hA
  have HC := Lib.hid hcap
  have HM := Lib.hid hcm
  obtain ⟨n, hxn⟩ : ∃ n, n = xs.length := ⟨_, rfl⟩
  rw [← hxn] at HR HC HFO HN ⊢
  have HXN := Lib.hid hxn
  clear hv hv2 hr hA hAb HRD HROOM HTOP hb1 hxs hcap hcm HD HT HS0 hxn
  go_wp2_with fail
  refine HFO.out.mono ?_
  rintro e w2 ⟨hb2, ⟨hrs, rfl⟩ | ⟨hrs, ⟨hrn, rfl⟩ | ⟨old, m0, hro, ⟨hg1, hg2, rfl⟩ | ⟨hgn, hm0, B, m, fc, rfl, hown⟩⟩⟩⟩
  · have HD2 := Lib.hid (HD1.out.below hb2)
    have HB2 := Lib.hid (HB1.out.trans (hb2.mono HB1.out.size))
    have HRS := Lib.hid hrs
    clear hb2 hrs HFO
    go_wp2_with fail
    go_ret
    exact ⟨10, D, rfl, .inl ⟨HRS.out, rfl, rfl⟩, HOK.out, HD2.out.mono fun k hk => .inl (HS1.out k hk).1, HB2.out.only S⟩
  · have HD2 := Lib.hid (HD1.out.below hb2)
    have HB2 := Lib.hid (HB1.out.trans (hb2.mono HB1.out.size))
    have HRS := Lib.hid hrs
    have HRN := Lib.hid hrn
    clear hb2 hrs hrn HFO
    go_wp2_with fail
    go_ret
    exact ⟨20, D, rfl, .inr ⟨HRS.out, .inl ⟨by rw [← HXS.out]; exact HRN.out, rfl, rfl⟩⟩, HOK.out, HD2.out.mono fun k hk => .inl (HS1.out k hk).1, HB2.out.only S⟩
  · have HD2 := Lib.hid (HD1.out.below hb2)
    have HB2 := Lib.hid (HB1.out.trans (hb2.mono HB1.out.size))
    have HRS := Lib.hid hrs
    have HRO := Lib.hid hro
    have HG : Hid (0 < old.gen ∧ s.gen ≠ old.gen + 1) := ⟨hg1, hg2⟩
    clear hb2 hrs hro hg1 hg2 HFO
    go_wp2_with fail
    go_ret
    exact ⟨10, D, rfl, .inr ⟨HRS.out, .inr ⟨old, m0, by rw [← HXS.out]; exact HRO.out, .inl ⟨HG.out.1, HG.out.2, rfl, rfl⟩⟩⟩, HOK.out, HD2.out.mono fun k hk => .inl (HS1.out k hk).1, HB2.out.only S⟩
  have HD2 := Lib.hid (HD1.out.below hb2)
  have HB2 := Lib.hid (HB1.out.trans (hb2.mono HB1.out.size))
  have HRS := Lib.hid hrs
  have HRO := Lib.hid hro
  have HGN := Lib.hid hgn
  have HM0 := Lib.hid hm0
  have HOW := Lib.hid hown
  have HR2 := Lib.hid (HR.out.below hb2)
  have HFL : Hid (m ≤ 500) := by have h1 := hown.1; have h2 := frame_len hrs; unfold Hid; omega
  have HFB : Hid (∀ a, B = some a → ¬ S1 a.block) := fun a ha hS => by
    have h1 := own_low hown a ha
    have h2 := (HS1.out _ hS).2
    have h3 := HB1.out.size
    omega
  clear hb2 hrs hro hgn hm0 hown HFO HR HD1
  by_cases hlong : 2048 ≤ n
  · have hlong' : (n : Int) ≥ 2048 := by omega
    have HSW := Lib.hid (swap_calls S1 bd D name B m fc (frameL (bytesS s)) w2 HD2.out HOK.out hs (HOW.out.rd encB_len) (own_nil_cap HOW.out) HFB.out (Nat.le_trans HL.out (by decide)) (Nat.le_trans HF.out (by decide)) (Nat.le_trans HFL.out (by decide)))
    have HLG := Lib.hid hlong
    clear hlong
    go_wp2_with fail
    refine HSW.out.mono ?_
    rintro e w3 ⟨ev, D', rfl, hsw, hok', hd', ho'⟩
    have HX1 := Lib.hid hsw
    have HX2 := Lib.hid hok'
    have HX3 := Lib.hid hd'
    have HX4 := Lib.hid ho'
    clear hsw hok' hd' ho' HSW
    go_wp2_with fail
    go_ret
    refine ⟨ev, D', rfl, .inr ⟨HRS.out, .inr ⟨old, m0, by rw [← HXS.out]; exact HRO.out, .inr ⟨HGN.out, .inl ⟨by rw [← HXS.out, ← HXN.out]; exact HLG.out, HX1.out⟩⟩⟩⟩, HX2.out, HX3.out.mono fun k hk => ?_, ?_⟩
    · rcases hk with hk | hk
      · exact .inl (HS1.out k hk).1
      · exact .inr (Nat.le_trans HB2.out.size hk)
    · exact (HB2.out.only S).trans (HX4.out.mono fun k _ hk => (HS1.out k hk).1)
  · have hshort : ¬ (n : Int) ≥ 2048 := by omega
    have HSH : Hid (n < 2048) := by unfold Hid; omega
    clear hlong
    by_cases hlt : m0 < n
    · have hlt' : (m0 : Int) < (n : Int) := by omega
      have hm0c : (m0 : Int) ≤ (cap : Int) := by have := HC.out; omega
      have HLT := Lib.hid hlt
      have HSW := Lib.hid (swap_calls S1 bd D name A m0 cap (xs.take m0) w2 HD2.out HOK.out hs (rd_take HR2.out (Nat.le_of_lt hlt)) HAN.out (fun a ha hS => by have h1 := HAB.out a ha; have h2 := (HS1.out _ hS).2; have h3 := HBX.out.size; omega) (Nat.le_trans HL.out (by decide)) (Nat.le_trans HF.out (by decide)) (Nat.le_trans (Nat.le_of_lt hlt) (Nat.le_trans HN.out (by decide))))
      clear hlt
      go_wp2_with fail
      refine HSW.out.mono ?_
      rintro e w3 ⟨ev, D1, rfl, hsw, hok', hd', ho'⟩
      have HX1 := Lib.hid hsw
      have HX2 := Lib.hid hok'
      have HX3 := Lib.hid hd'
      have HX4 := Lib.hid ho'
      have HGR := Lib.hid (grew_swap hsw)
      have HFW := Lib.hid ((HOW.out.rd encB_len).only ho' fun a ha => HFB.out a ha)
      clear hsw hok' hd' ho' HSW
      by_cases hev : ev = 0
      · subst hev
        have HWR := Lib.hid (write_calls _ bd D1 name B m fc (frameL (bytesS s)) w3 HX3.out HX2.out HFW.out (own_nil_cap HOW.out) (Nat.le_trans HGR.out.loose (Nat.le_trans (Nat.add_le_add_right HL.out 2) (by decide))) (Nat.le_trans HGR.out.files (Nat.le_trans (Nat.add_le_add_right HF.out 2) (by decide))) HNS.out (Nat.le_trans HFL.out (by decide)))
        go_wp2_with fail
        refine HWR.out.mono ?_
        rintro e w5 ⟨rfl, ⟨new, p1, p2⟩, p3⟩
        have HP1 := Lib.hid p1
        have HP2 := Lib.hid p2
        have HP3 := Lib.hid p3
        clear p1 p2 p3 HWR
        by_cases hw : writeE D1 name (frameL (bytesS s)).length = 0
        · have HWE := Lib.hid hw
          rw [hw]
          clear hw
          obtain ⟨D2, hD2⟩ : ∃ D2, D2 = D1.write name (frameL (bytesS s)) new := ⟨_, rfl⟩
          have g2 := grew_write D1 name (frameL (bytesS s)) new
          rw [← hD2] at HP1 HP2 g2
          have HD2' := Lib.hid hD2
          clear hD2
          have HSY := Lib.hid (sync_calls _ bd D2 name w5 HP2.out HP1.out (Nat.le_trans g2.loose (Nat.le_trans (Nat.add_le_add_right (Nat.le_trans HGR.out.loose (Nat.add_le_add_right HL.out 2)) 1) (by decide))) HNS.out)
          clear g2
          go_wp2_with fail
          refine HSY.out.mono ?_
          rintro e w6 ⟨rfl, r1, r2⟩
          have HR1 := Lib.hid r1
          have HR2' := Lib.hid r2
          clear r1 r2 HSY
          go_wp2_with fail
          go_ret
          exact ⟨goneE D2.files name, D2.sync name, rfl, .inr ⟨HRS.out, .inr ⟨old, m0, by rw [← HXS.out]; exact HRO.out, .inr ⟨HGN.out, .inr ⟨by rw [← HXS.out, ← HXN.out]; exact HSH.out, .inl ⟨by rw [← HXS.out, ← HXN.out]; exact HLT.out, 0, D1, by rw [← HXS.out]; exact HX1.out, .inr ⟨rfl, new, .inr ⟨HWE.out, by rw [HD2'.out], by rw [HD2'.out]⟩⟩⟩⟩⟩⟩⟩, (HP1.out.sync name), HR1.out.mono fun k hk => save_set2 (fun k hk => (HS1.out k hk).1) HB2.out.size (Nat.le_trans HB2.out.size HX4.out.size) hk, (HB2.out.only S).trans' (HX4.out.trans' (HP3.out.trans' HR2'.out fun i hi => hi) fun i hi => save_set3 HX4.out.size hi) fun i hi => save_set' (fun k hk => (HS1.out k hk).1) HB2.out.size hi⟩
        · have hw2 : (writeE D1 name (frameL (bytesS s)).length == 0) = false := by simpa using hw
          have HWE := Lib.hid hw
          generalize hwe : writeE D1 name (frameL (bytesS s)).length = we at *
          clear hw
          go_wp2_with fail
          go_ret
          exact ⟨we, _, rfl, .inr ⟨HRS.out, .inr ⟨old, m0, by rw [← HXS.out]; exact HRO.out, .inr ⟨HGN.out, .inr ⟨by rw [← HXS.out, ← HXN.out]; exact HSH.out, .inl ⟨by rw [← HXS.out, ← HXN.out]; exact HLT.out, 0, D1, by rw [← HXS.out]; exact HX1.out, .inr ⟨rfl, new, .inl ⟨by rw [hwe]; exact HWE.out, hwe.symm, rfl⟩⟩⟩⟩⟩⟩⟩, HP1.out, HP2.out.mono fun k hk => save_set2 (fun k hk => (HS1.out k hk).1) HB2.out.size (Nat.le_trans HB2.out.size HX4.out.size) hk, (HB2.out.only S).trans' (HX4.out.trans' HP3.out fun i hi => save_set3 HX4.out.size hi) fun i hi => save_set' (fun k hk => (HS1.out k hk).1) HB2.out.size hi⟩
      · have hev2 : (ev == 0) = false := by simpa using hev
        have HEV := Lib.hid hev
        clear hev
        go_wp2_with fail
        go_ret
        exact ⟨ev, D1, rfl, .inr ⟨HRS.out, .inr ⟨old, m0, by rw [← HXS.out]; exact HRO.out, .inr ⟨HGN.out, .inr ⟨by rw [← HXS.out, ← HXN.out]; exact HSH.out, .inl ⟨by rw [← HXS.out, ← HXN.out]; exact HLT.out, ev, D1, by rw [← HXS.out]; exact HX1.out, .inl ⟨HEV.out, rfl, rfl⟩⟩⟩⟩⟩⟩, HX2.out, HX3.out.mono fun k hk => save_set (fun k hk => (HS1.out k hk).1) HB2.out.size hk, (HB2.out.only S).trans (HX4.out.mono fun k _ hk => (HS1.out k hk).1)⟩
    · have hnlt : ¬ (m0 : Int) < (n : Int) := by omega
      have HNL := Lib.hid hlt
      clear hlt
      have HWR := Lib.hid (write_calls S1 bd D name B m fc (frameL (bytesS s)) w2 HD2.out HOK.out (HOW.out.rd encB_len) (own_nil_cap HOW.out) (Nat.le_trans HL.out (by decide)) (Nat.le_trans HF.out (by decide)) HNS.out (Nat.le_trans HFL.out (by decide)))
      go_wp2_with fail
      refine HWR.out.mono ?_
      rintro e w5 ⟨rfl, ⟨new, p1, p2⟩, p3⟩
      have HP1 := Lib.hid p1
      have HP2 := Lib.hid p2
      have HP3 := Lib.hid p3
      clear p1 p2 p3 HWR
      by_cases hw : writeE D name (frameL (bytesS s)).length = 0
      · have HWE := Lib.hid hw
        rw [hw]
        clear hw
        obtain ⟨D2, hD2⟩ : ∃ D2, D2 = D.write name (frameL (bytesS s)) new := ⟨_, rfl⟩
        have g2 := grew_write D name (frameL (bytesS s)) new
        rw [← hD2] at HP1 HP2 g2
        have HD2' := Lib.hid hD2
        clear hD2
        have HSY := Lib.hid (sync_calls _ bd D2 name w5 HP2.out HP1.out (Nat.le_trans g2.loose (Nat.le_trans (Nat.add_le_add_right HL.out 1) (by decide))) HNS.out)
        clear g2
        go_wp2_with fail
        refine HSY.out.mono ?_
        rintro e w6 ⟨rfl, r1, r2⟩
        have HR1 := Lib.hid r1
        have HR2' := Lib.hid r2
        clear r1 r2 HSY
        go_wp2_with fail
        go_ret
        exact ⟨goneE D2.files name, D2.sync name, rfl, .inr ⟨HRS.out, .inr ⟨old, m0, by rw [← HXS.out]; exact HRO.out, .inr ⟨HGN.out, .inr ⟨by rw [← HXS.out, ← HXN.out]; exact HSH.out, .inr ⟨by rw [← HXS.out, ← HXN.out]; exact HNL.out, new, .inr ⟨HWE.out, by rw [HD2'.out], by rw [HD2'.out]⟩⟩⟩⟩⟩⟩, (HP1.out.sync name), HR1.out.mono fun k hk => save_set (fun k hk => (HS1.out k hk).1) HB2.out.size hk, (HB2.out.only S).trans' (HP3.out.trans' HR2'.out fun i hi => hi) fun i hi => save_set' (fun k hk => (HS1.out k hk).1) HB2.out.size hi⟩
      · have hw2 : (writeE D name (frameL (bytesS s)).length == 0) = false := by simpa using hw
        have HWE := Lib.hid hw
        generalize hwe : writeE D name (frameL (bytesS s)).length = we at *
        clear hw
        go_wp2_with fail
        go_ret
        exact ⟨we, _, rfl, .inr ⟨HRS.out, .inr ⟨old, m0, by rw [← HXS.out]; exact HRO.out, .inr ⟨HGN.out, .inr ⟨by rw [← HXS.out, ← HXN.out]; exact HSH.out, .inr ⟨by rw [← HXS.out, ← HXN.out]; exact HNL.out, new, .inl ⟨by rw [hwe]; exact HWE.out, hwe.symm, rfl⟩⟩⟩⟩⟩⟩, HP1.out, HP2.out.mono fun k hk => save_set (fun k hk => (HS1.out k hk).1) HB2.out.size hk, (HB2.out.only S).trans' HP3.out fun i hi => save_set' (fun k hk => (HS1.out k hk).1) HB2.out.size hi⟩
end Go.Proofs.Ytideokbaenkijaa
