/-
  StoreLasts, walked.
-/
import Derived.Test.YtmjoepipcmglkaaSRowB
import Derived.Test.YtmjoepipcmglkaaSRoomsW
namespace Go.Proofs.Ytmjoepipcmglkaa
open Go.RowKit Go.Maps

set_option maxHeartbeats 4000000 in
set_option maxRecDepth 20000 in
theorem lasts_calls (A : Option Addr) (n ca : Nat) (cs : List CallD) (nm : ByteArray) (keep : Int) (w : World) (h : RdC w A n cs) (hc : ∀ c ∈ cs, CallIn w c) (hnm : nm.size ≤ 140737488351232) (hk : -9223372036854775808 ≤ keep ∧ keep < 9223372036854775808) :
    Calls Try.prog 4 #[.slice A n ca, .string nm, .int .i64 keep] w fun e w' => e = .returned (.bool true) ∧ Below w.heap.size w w' := by
  have HA := Lib.hid (alive_calls w)
  have HR := Lib.hid h
  have HCI := Lib.hid hc
  have HK := Lib.hid hk
  clear h hc hk
  go_enter Try.func4, Try.ntmps4
  go_wp2_with fail
  refine HA.out.mono ?_
  rintro e w1 ⟨rfl, hb1⟩
  have HG := Lib.hid (great_calls A n ca cs w1 (HR.out.below hb1) fun c hm => (HCI.out c hm).below hb1)
  have HB1 := Lib.hid hb1
  clear hb1 HA
  go_wp2_with fail
  refine HG.out.mono ?_
  rintro e w2 ⟨⟨t, rfl, ht⟩, hb2⟩
  have HB2 := Lib.hid (HB1.out.trans (hb2.mono HB1.out.size))
  clear hb2 HG HB1
  cases t with
  | true =>
    clear ht
    go_wp2
    go_ret
    exact ⟨rfl, HB2.out⟩
  | false =>
  have H80 := Lib.hid (ht rfl).1
  have HC : Hid (∀ c ∈ cs, CallOk w c) := fun c hm => (HCI.out c hm).ok ((ht rfl).2 c hm)
  clear ht
  by_cases hn1 : nm.size < 1
  · have hn1' : ((nm.size : Int) < 1) := by omega
    go_wp2_with fail
    go_ret
    exact ⟨rfl, HB2.out⟩
  by_cases hn16 : 16 < nm.size
  · have hn1' : ¬ ((nm.size : Int) < 1) := by omega
    have hn16' : ((nm.size : Int) > 16) := by omega
    go_wp2_with fail
    go_ret
    exact ⟨rfl, HB2.out⟩
  have hn1' : ¬ ((nm.size : Int) < 1) := by omega
  have hn16' : ¬ ((nm.size : Int) > 16) := by omega
  have HNS : Hid (nm.size ≤ maxLen) := by unfold Hid maxLen; omega
  have HN := Lib.hid (new_calls 16777216 w2 (by omega))
  go_wp2_with fail
  refine HN.out.mono ?_
  rintro e w3 ⟨bd, rfl, hd, hb3⟩
  have HB3 := Lib.hid (HB2.out.trans (hb3.mono HB2.out.size))
  have HD3 : Hid (DiskAt (fun k => w.heap.size ≤ k) w3 bd ⟨[], [], 16777216⟩) := hd.mono fun k hk => Nat.le_trans HB2.out.size hk
  clear hd hb3 HN HB2
  go_wp2_with fail
  go_loopw [9, 10] (fun sv iv wr => ∃ (j s : Nat) (D : DiskD), j ≤ n ∧ s ≤ 16777216 ∧ iv = .int .i64 j ∧ sv = .int .i64 s ∧ Hid (SafeAt D nm s) ∧ Hid (RoomsAt w wr bd j 16777216 D)) (fun _ iv _ => n - (intOf iv).toNat)
  case atStart => exact ⟨0, 0, _, Nat.zero_le _, Nat.zero_le _, rfl, rfl, .inl rfl, ⟨HD3.out, ok_new 16777216 (by omega), Nat.le_refl _, Nat.le_refl _, rfl, HB3.out⟩⟩
  case round =>
    clear HD3 HB3 hn1 hn16 hn1' hn16' hnm
    obtain ⟨j, s, D, hj, hs, rfl, rfl, HSF, HW⟩ := hrel
    by_cases hjn : j < n
    · obtain ⟨c, b, off, hcj, rfl, hbl, c0, c1, c2, c3, c4⟩ := rdc (HR.out.below HW.out.below) j hjn
      have hcm := List.mem_of_getElem? hcj
      have h80 := H80.out
      obtain ⟨hbx, cv⟩ := one_box wr c.cells 34
      have b0 := cv 0 _ rfl
      have b1 := cv 1 _ rfl
      have b2 := cv 2 _ rfl
      have b3 := cv 3 _ rfl
      have b4 := cv 4 _ rfl
      have hdo := do_calls _ bd D c _ (HW.out.disk.tight.below hbx) HW.out.ok (((HC.out c hcm).below HW.out.below).below hbx) (by have := HW.out.loose; omega) (by have := HW.out.files; omega)
      have HDO := Lib.hid hdo
      have HBX := Lib.hid hbx
      clear hcj hcm hdo h80 hbx cv
      go_wp2_with fail
      refine HDO.out.mono ?_
      rintro e w4 ⟨rfl, ⟨new, o1, o2⟩, o3⟩
      obtain ⟨l1, l2, l3⟩ := doC_len D c new
      have hR4 : RoomsAt w w4 bd (j + 1) 16777216 (D.doC c new) :=
        ⟨o2.mono fun k hk => hk.elim (fun h => h.1) fun h => Nat.le_trans HW.out.below.size (Nat.le_trans HBX.out.size h), o1, by have := HW.out.loose; omega, by have := HW.out.files; omega, l3.trans HW.out.limit, (HW.out.below.trans (HBX.out.mono HW.out.below.size)).trans (o3.below (Nat.le_trans HW.out.below.size HBX.out.size) (fun i hi => hi.1))⟩
      have d0 := o3.cell b0 (fun h => absurd h.2 (Nat.lt_irrefl _))
      have d1 := o3.cell b1 (fun h => absurd h.2 (Nat.lt_irrefl _))
      have d2 := o3.cell b2 (fun h => absurd h.2 (Nat.lt_irrefl _))
      have HW4 := Lib.hid hR4
      have HSD : Hid (c.what ≠ 4 → (doE D c = 0 → ¬ (c.what = 2 ∧ c.name = nm)) → (doE D c = 0 → ¬ (c.what = 3 ∧ (c.name = nm ∨ c.to = nm))) → SafeAt (D.doC c new) nm s) := fun h4 h2 h3 => safe_do HSF.out HW.out.ok h4 h2 h3
      have HSY : Hid (doE D c = 0 → c.what = 1 → c.name = nm → SafeAt (D.doC c new) nm (bytesD (D.doC c new).files nm).length) := fun he h1 hn => by
        have hd : D.doC c new = D.sync nm := by unfold DiskD.doC; rw [if_neg (by omega), if_pos h1, hn]
        rw [hd]
        unfold doE at he
        rw [if_neg (by omega), if_pos h1, hn] at he
        exact safe_sync HW.out.ok he
      generalize D.doC c new = D' at *
      generalize doE D c = eo at *
      clear o1 o2 o3 l1 l2 l3 hR4 HDO HW HSF HBX b0 b1 b2 b3 b4 c0 c1 c2 c3 c4 hbl
      have hj1 : wrap64 ((j : Int) + 1) = ((j + 1 : Nat) : Int) := by have := H80.out; unfold wrap64; omega
      have GA0 : ∃ (j1 s1 : Nat) (D1 : DiskD), j1 ≤ n ∧ s1 ≤ 16777216 ∧ Value.int .i64 (wrap64 ((j : Int) + 1)) = .int .i64 j1 ∧ Value.int .i64 0 = .int .i64 s1 ∧ Hid (SafeAt D1 nm s1) ∧ Hid (RoomsAt w w4 bd j1 16777216 D1) := ⟨j + 1, 0, D', by omega, by omega, by rw [hj1], rfl, .inl rfl, HW4.out⟩
      have GB0 : Hid (SafeAt D' nm s → ∃ (j1 s1 : Nat) (D1 : DiskD), j1 ≤ n ∧ s1 ≤ 16777216 ∧ Value.int .i64 (wrap64 ((j : Int) + 1)) = .int .i64 j1 ∧ Value.int .i64 (s : Int) = .int .i64 s1 ∧ Hid (SafeAt D1 nm s1) ∧ Hid (RoomsAt w w4 bd j1 16777216 D1)) := fun h => ⟨j + 1, s, D', by omega, hs, by rw [hj1], rfl, h, HW4.out⟩
      have GM : n - (intOf (Value.int .i64 (wrap64 ((j : Int) + 1)))).toNat < n - (intOf (Value.int .i64 (j : Int))).toNat := by rw [hj1]; simp [intOf]; omega
      have GA0 := Lib.hid GA0
      have GM := Lib.hid GM
      clear hj1
      by_cases he : eo = 0
      · by_cases k2 : c.what = 2
        · by_cases kname : c.name = nm
          · have qname : c.name.toList = nm.toList := by rw [kname]
            have pname : (c.name.toList == nm.toList) = true := by rw [str_beq]; exact decide_eq_true kname
            have GA := Lib.hid GA0.out
            clear HSD HSY GB0 GA0
            go_wp2_with fail
            exact ⟨GA.out, GM.out⟩
          · have qname : ¬ c.name.toList = nm.toList := fun e => kname (by rw [ByteArray.toList_eq, ByteArray.toList_eq] at e; exact ByteArray.ext (Array.ext' e))
            have pname : (c.name.toList == nm.toList) = false := by rw [str_beq]; exact decide_eq_false kname
            have GB := Lib.hid (GB0.out (HSD.out (by omega) (fun _ h => kname h.2) (fun _ h => absurd h.1 (by omega))))
            clear HSD HSY GB0 GA0
            go_wp2_with fail
            exact ⟨GB.out, GM.out⟩
        · by_cases k3 : c.what = 3
          · by_cases kname : c.name = nm
            · have qname : c.name.toList = nm.toList := by rw [kname]
              have pname : (c.name.toList == nm.toList) = true := by rw [str_beq]; exact decide_eq_true kname
              have GA := Lib.hid GA0.out
              clear HSD HSY GB0 GA0
              go_wp2_with fail
              exact ⟨GA.out, GM.out⟩
            · by_cases kto : c.to = nm
              · have qname : ¬ c.name.toList = nm.toList := fun e => kname (by rw [ByteArray.toList_eq, ByteArray.toList_eq] at e; exact ByteArray.ext (Array.ext' e))
                have pname : (c.name.toList == nm.toList) = false := by rw [str_beq]; exact decide_eq_false kname
                have qto : c.to.toList = nm.toList := by rw [kto]
                have pto : (c.to.toList == nm.toList) = true := by rw [str_beq]; exact decide_eq_true kto
                have GA := Lib.hid GA0.out
                clear HSD HSY GB0 GA0
                go_wp2_with fail
                exact ⟨GA.out, GM.out⟩
              · have qname : ¬ c.name.toList = nm.toList := fun e => kname (by rw [ByteArray.toList_eq, ByteArray.toList_eq] at e; exact ByteArray.ext (Array.ext' e))
                have pname : (c.name.toList == nm.toList) = false := by rw [str_beq]; exact decide_eq_false kname
                have qto : ¬ c.to.toList = nm.toList := fun e => kto (by rw [ByteArray.toList_eq, ByteArray.toList_eq] at e; exact ByteArray.ext (Array.ext' e))
                have pto : (c.to.toList == nm.toList) = false := by rw [str_beq]; exact decide_eq_false kto
                have GB := Lib.hid (GB0.out (HSD.out (by omega) (fun _ h => absurd h.1 (by omega)) (fun _ h => h.2.elim kname kto)))
                clear HSD HSY GB0 GA0
                go_wp2_with fail
                exact ⟨GB.out, GM.out⟩
          · by_cases k4 : c.what = 4
            · have GA := Lib.hid GA0.out
              clear HSD HSY GB0 GA0
              go_wp2_with fail
              exact ⟨GA.out, GM.out⟩
            · by_cases k1 : c.what = 1
              · by_cases kname : c.name = nm
                · have qname : c.name.toList = nm.toList := by rw [kname]
                  have pname : (c.name.toList == nm.toList) = true := by rw [str_beq]; exact decide_eq_true kname
                  have GC := HSY.out he k1 kname
                  clear HSD HSY GB0 GA0
                  have HGC := Lib.hid GC
                  clear GC
                  go_wp2_with fail
                  have HRD := Lib.hid (read_calls _ bd D' nm w4 HW4.out.disk HW4.out.ok HNS.out)
                  refine HRD.out.mono ?_
                  rintro e w5 ⟨⟨v, rfl, hv⟩, hb5⟩
                  obtain ⟨A5, c5, rfl, _, _, _⟩ := hv.is
                  change SafeAt D' nm (bytesD D'.files nm).length at HGC
                  have hle : (bytesD D'.files nm).length ≤ 16777216 := by have := bytes_le D'.files nm; have := HW4.out.ok.fits; have := HW4.out.ok.small; omega
                  have HLE := Lib.hid hle
                  have HGC2 : Hid (SafeAt D' nm (bytesD D'.files nm).length) := HGC
                  have HW5 : Hid (RoomsAt w w5 bd (j + 1) 16777216 D') := ⟨HW4.out.disk.below hb5, HW4.out.ok, HW4.out.loose, HW4.out.files, HW4.out.limit, HW4.out.below.trans (hb5.mono HW4.out.below.size)⟩
                  clear hv hb5 HRD hle HGC HW4
                  go_wp2_with fail
                  refine ⟨⟨j + 1, (bytesD D'.files nm).length, D', by omega, HLE.out, by have h80 := H80.out; rw [show wrap64 ((j : Int) + 1) = ((j + 1 : Nat) : Int) by unfold wrap64; omega], rfl, HGC2.out, HW5.out⟩, ?_⟩
                  exact GM.out
                · have qname : ¬ c.name.toList = nm.toList := fun e => kname (by rw [ByteArray.toList_eq, ByteArray.toList_eq] at e; exact ByteArray.ext (Array.ext' e))
                  have pname : (c.name.toList == nm.toList) = false := by rw [str_beq]; exact decide_eq_false kname
                  have GB := Lib.hid (GB0.out (HSD.out k4 (fun _ h => absurd h.1 k2) (fun _ h => absurd h.1 k3)))
                  clear HSD HSY GB0 GA0
                  go_wp2_with fail
                  exact ⟨GB.out, GM.out⟩
              · have GB := Lib.hid (GB0.out (HSD.out k4 (fun _ h => absurd h.1 k2) (fun _ h => absurd h.1 k3)))
                clear HSD HSY GB0 GA0
                go_wp2_with fail
                exact ⟨GB.out, GM.out⟩
      · by_cases k4 : c.what = 4
        · have GA := Lib.hid GA0.out
          clear HSD HSY GB0 GA0
          go_wp2_with fail
          exact ⟨GA.out, GM.out⟩
        · have GB := Lib.hid (GB0.out (HSD.out k4 (fun h => absurd h he) (fun h => absurd h he)))
          clear HSD HSY GB0 GA0
          go_wp2_with fail
          exact ⟨GB.out, GM.out⟩
    · have h80 := H80.out
      have HRD := Lib.hid (read_calls _ bd D nm wr HW.out.disk.tight HW.out.ok HNS.out)
      have HX : Hid (bytesD (D.crash keep.toNat).files nm = (bytesD D.files nm).take (bytesD (D.crash keep.toNat).files nm).length) := (crash_begins HW.out.ok keep.toNat nm).1
      have hx2 := (crash_begins HW.out.ok keep.toNat nm).2.1
      have hx3 := (crash_begins HW.out.ok keep.toNat nm).2.2
      have hx4 := safe_crash HSF.out HW.out.ok keep.toNat
      have hx5 : (bytesD D.files nm).length ≤ 16777216 := by have := bytes_le D.files nm; have := HW.out.ok.fits; have := HW.out.ok.small; omega
      have HLL : Hid ((D.crash keep.toNat).loose = []) := rfl
      have HOK : Hid (D.crash keep.toNat).Ok := HW.out.ok.crash _
      clear h80 HC HCI
      go_wp2_with fail
      refine HRD.out.mono ?_
      rintro e w5 ⟨⟨v, rfl, hv⟩, hb5⟩
      have HV5 : Hid (Bs w5 v wr.heap.size (bytesD D.files nm)) := hv
      have HCR := Lib.hid (crash_calls _ bd D keep w5 (HW.out.disk.tight.below hb5) HW.out.ok (by have := HW.out.loose; have := H80.out; omega) HK.out.1 HK.out.2)
      have HB5 := Lib.hid (HW.out.below.trans (hb5.mono HW.out.below.size))
      have HZ := Lib.hid HW.out.below.size
      clear hv hb5 HRD HW HSF
      go_wp2_with fail
      refine HCR.out.mono ?_
      rintro e w6 ⟨rfl, o1, o2⟩
      have HD6 := Lib.hid o1
      have HV6 : Hid (Bs w6 v wr.heap.size (bytesD D.files nm)) := by
        obtain ⟨⟨A, cap, h1, h2, h3, h4⟩, h5⟩ := HV5.out
        exact ⟨⟨A, cap, h1, h2.only o2 (fun a ha hS => Nat.not_lt.2 (h4 a ha) hS.2), h3, h4⟩, h5⟩
      have HB6 := Lib.hid (HB5.out.trans (o2.below HB5.out.size fun i hi => hi.1))
      clear o1 o2 HCR HV5 HB5
      generalize D.crash keep.toNat = D1 at *
      have HRD := Lib.hid (read_calls _ bd D1 nm w6 HD6.out HOK.out HNS.out)
      go_wp2_with fail
      refine HRD.out.mono ?_
      rintro e w7 ⟨⟨u, rfl, hu⟩, hb7⟩
      have hu2 : Bs w7 u w6.heap.size (bytesD D1.files nm) := hu
      have hv2 := HV6.out.below hb7
      have HLO := Lib.hid (loose_calls _ bd D1 w7 (HD6.out.below hb7) HOK.out (by rw [HLL.out]; exact Nat.zero_le _))
      rw [HLL.out, show ((looseL ([] : List (Nat × Nat)) : Nat) : Int) = 0 from rfl] at HLO
      have HB7 := Lib.hid (HB6.out.trans (hb7.mono HB6.out.size))
      obtain ⟨A8, c8, rfl, hr8, _, _⟩ := hv2.is
      have hroom := hv2.room _ _ _ rfl
      obtain ⟨A9, c9, rfl, hr9, _, _⟩ := hu2.is
      have HR8 := Lib.hid hr8
      have HR9 := Lib.hid hr9
      clear hu hb7 HRD hu2 hv2 HV6 hr8 hr9 HB6 HD6
      generalize bytesD D1.files nm = xs2 at *
      generalize bytesD D.files nm = xs1 at *
      generalize (findD D1.files nm).isSome = b2 at *
      generalize (findD D.files nm).isSome = b1 at *
      have hf1 : ¬ ((xs2.length : Int) < s) := by omega
      have hf2 : ¬ ((xs2.length : Int) > xs1.length) := by omega
      have hb : b2 = false ∨ (b2 = true ∧ b1 = true) := by
        cases b2 with
        | false => exact .inl rfl
        | true => exact .inr ⟨rfl, hx3 rfl⟩
      have hx6 : xs2.length ≤ c8 := by omega
      clear hx3
      rcases hb with rfl | ⟨rfl, rfl⟩
      all_goals
        go_wp2_with fail
        refine HLO.out.mono ?_
        rintro e w8 ⟨rfl, hb8⟩
        have HR8' := Lib.hid (HR8.out.below hb8)
        have HR9' := Lib.hid (HR9.out.below hb8)
        have HB8 := Lib.hid (HB7.out.trans (hb8.mono HB7.out.size))
        clear hb8 HLO
        have hsb := sameb_calls A9 A8 xs2.length xs2.length c9 c8 xs2 (xs1.take xs2.length) w8 HR9'.out (rd_take HR8'.out (by omega)) (by omega) (by omega)
        rw [decide_eq_true HX.out] at hsb
        have HSB := Lib.hid hsb
        clear hsb HX
        go_wp2_with fail
        refine HSB.out.mono ?_
        rintro e w9 ⟨rfl, q, hw9⟩
        have hb9 := drewN_below w8 q
        rw [← hw9] at hb9
        have HB9 := Lib.hid (HB8.out.trans (hb9.mono HB8.out.size))
        clear hw9 hb9 HSB
        go_wp2_with fail
        go_ret
        exact ⟨rfl, HB9.out⟩
theorem lasts_law (A : Option Addr) (n ca : Nat) (cs : List CallD) (nm : ByteArray) (keep : Int) (w : World) (h : RdC w A n cs ∧ ∀ c ∈ cs, CallIn w c) (hnm : nm.size ≤ 140737488351232) (hk : -9223372036854775808 ≤ keep ∧ keep < 9223372036854775808) (_ : True) :
    Calls Try.prog 4 #[.slice A n ca, .string nm, .int .i64 keep] w fun e w' => e = .returned (.bool true) ∧ Below w.heap.size w w' := lasts_calls A n ca cs nm keep w h.1 h.2 hnm hk
end Go.Proofs.Ytmjoepipcmglkaa
