/-
  StoreTwice, walked.
-/
import Derived.Test.YtmjoepipcmglkaaSRowB
import Derived.Test.YtmjoepipcmglkaaSRoomsW
namespace Go.Proofs.Ytmjoepipcmglkaa
open Go.RowKit Go.Maps

theorem rdb_keep {w w' : World} {A : Option Addr} {n : Nat} {xs : List Int} {S : Nat → Prop} (h : RdB w A n xs) (ho : Only S w w') (hS : xs ≠ [] → ∀ a, A = some a → ¬ S a.block) : RdB w' A n xs := by
  cases xs with
  | nil => rw [show n = 0 from h.len]; exact Rd.nil _ _ _ _
  | cons x xs => exact h.only ho (hS (by simp))
theorem rdb_lt {w : World} {A : Option Addr} {n : Nat} {xs : List Int} (h : RdB w A n xs) (hx : xs ≠ []) : ∀ a, A = some a → a.block < w.heap.size := by
  cases xs with
  | nil => exact absurd rfl hx
  | cons x xs =>
    intro a ha
    obtain ⟨b, off, e, hb, _⟩ := h.at_ 0 x rfl
    rw [e] at ha
    injection ha with ha
    subst ha
    exact hb
/-- Rows that were read, name by name. -/
structure OldRows (B : Nat) (wr : World) (D : DiskD) (k : Nat) (O : Option Addr) (rows : List BRow) : Prop where
  ok : ∀ r ∈ rows, BRowOk wr r
  from_ : ∀ r ∈ rows, ∀ a, r.A = some a → B ≤ a.block
  apart : ∀ x, O = some ⟨x, 0, none⟩ → ∀ r ∈ rows, r.xs ≠ [] → ∀ a, r.A = some a → a.block ≠ x
  is : rows.map BRow.xs = ((namesB D.files).take k).map (bytesD D.files)
theorem OldRows.below {B : Nat} {w w' : World} {D : DiskD} {k : Nat} {O : Option Addr} {rows : List BRow} (h : OldRows B w D k O rows) (hb : Below w.heap.size w w') : OldRows B w' D k O rows :=
  ⟨fun r hr => (h.ok r hr).below hb, h.from_, h.apart, h.is⟩
theorem OldRows.more {B g : Nat} {w w' : World} {D : DiskD} {k : Nat} {O : Option Addr} {rows : List BRow} {s : ByteArray} {r : BRow} (h : OldRows B w D k O rows) (ho : Only (fun k => O = some ⟨k, 0, none⟩) w w') (hs : (namesB D.files)[k]? = some s) (hr : BRowOk w r) (hx : bytesD D.files s = r.xs) (hB : ∀ a, r.A = some a → B ≤ a.block)
    (hap : ∀ x, O = some ⟨x, 0, none⟩ → r.xs ≠ [] → ∀ a, r.A = some a → a.block ≠ x) (hg : O = some ⟨g, 0, none⟩ ∨ w.heap.size < g) : OldRows B w' D (k + 1) (some ⟨g, 0, none⟩) (rows ++ [r]) where
  ok q hq := by
    rcases List.mem_append.1 hq with hq | hq
    · exact ⟨rdb_keep (h.ok q hq).rd ho fun hne a ha hO => h.apart _ hO q hq hne a ha rfl, (h.ok q hq).nil⟩
    · rw [List.mem_singleton.1 hq]
      exact ⟨rdb_keep hr.rd ho fun hne a ha hO => hap _ hO hne a ha rfl, hr.nil⟩
  from_ q hq := by
    rcases List.mem_append.1 hq with hq | hq
    · exact h.from_ q hq
    · rw [List.mem_singleton.1 hq]; exact hB
  apart x hx2 q hq hne a ha := by
    injection hx2 with hx2; injection hx2 with hx2
    subst hx2
    have hlt : a.block < w.heap.size := by
      rcases List.mem_append.1 hq with hq | hq
      · exact rdb_lt (h.ok q hq).rd hne a ha
      · rw [List.mem_singleton.1 hq] at hne ha
        exact rdb_lt hr.rd hne a ha
    rcases hg with hg | hg
    · rcases List.mem_append.1 hq with hq | hq
      · exact h.apart _ hg q hq hne a ha
      · rw [List.mem_singleton.1 hq] at hne ha
        exact hap _ hg hne a ha
    · omega
  is := by rw [List.map_append, take_get hs, List.map_append, h.is]; simp [hx]

set_option maxHeartbeats 4000000 in
set_option maxRecDepth 20000 in
theorem twice_calls (A : Option Addr) (n ca : Nat) (cs : List CallD) (keep again : Int) (w : World) (h : RdC w A n cs) (hc : ∀ c ∈ cs, CallIn w c) (hk : -9223372036854775808 ≤ keep ∧ keep < 9223372036854775808) (ha : -9223372036854775808 ≤ again ∧ again < 9223372036854775808) :
    Calls Try.prog 5 #[.slice A n ca, .int .i64 keep, .int .i64 again] w fun e w' => e = .returned (.bool true) ∧ Below w.heap.size w w' := by
  have HA := Lib.hid (alive_calls w)
  have HR := Lib.hid h
  have HCI := Lib.hid hc
  have HK := Lib.hid hk
  have HAG := Lib.hid ha
  clear h hc hk ha
  go_enter Try.func5, Try.ntmps5
  go_wp2_with fail
  refine HA.out.mono ?_
  rintro e w1 ⟨rfl, hb1⟩
  have HG := Lib.hid (great_calls A n ca cs w1 (HR.out.below hb1) fun c hm => (HCI.out c hm).below hb1)
  have HB1 := Lib.hid hb1
  clear hb1 HA
  go_wp2_with fail
  refine HG.out.mono ?_
  rintro e w2 ⟨⟨t, rfl, ht⟩, hb2⟩
  have HB2 := Lib.hid (HB1.out.trans (hb2.mono HB1.out.size))
  clear hb2 HG HB1
  cases t with
  | true =>
    clear ht
    go_wp2
    go_ret
    exact ⟨rfl, HB2.out⟩
  | false =>
  have H80 := Lib.hid (ht rfl).1
  have HC : Hid (∀ c ∈ cs, CallOk w c) := fun c hm => (HCI.out c hm).ok ((ht rfl).2 c hm)
  clear ht
  have HN := Lib.hid (new_calls 16777216 w2 (by omega))
  go_wp2_with fail
  refine HN.out.mono ?_
  rintro e w3 ⟨bd, rfl, hd, hb3⟩
  have HB3 := Lib.hid (HB2.out.trans (hb3.mono HB2.out.size))
  have HD3 : Hid (DiskAt (fun k => w.heap.size ≤ k) w3 bd ⟨[], [], 16777216⟩) := hd.mono fun k hk => Nat.le_trans HB2.out.size hk
  clear hd hb3 HN HB2
  go_wp2_with fail
  go_loopw [9] (fun i wr => ∃ (j : Nat) (D : DiskD), j ≤ n ∧ i = .int .i64 j ∧ Hid (RoomsAt w wr bd j 16777216 D)) (fun i _ => n - (intOf i).toNat)
  case atStart => exact ⟨0, _, Nat.zero_le _, rfl, ⟨HD3.out, ok_new 16777216 (by omega), Nat.le_refl _, Nat.le_refl _, rfl, HB3.out⟩⟩
  case round =>
    clear HD3 HB3
    obtain ⟨j, D, hj, rfl, HW⟩ := hrel
    by_cases hjn : j < n
    · obtain ⟨c, b, off, hcj, rfl, hbl, c0, c1, c2, c3, c4⟩ := rdc (HR.out.below HW.out.below) j hjn
      have hcm := List.mem_of_getElem? hcj
      have h80 := H80.out
      have hdo := do_calls _ bd D c wr HW.out.disk HW.out.ok ((HC.out c hcm).below HW.out.below) (by have := HW.out.loose; omega) (by have := HW.out.files; omega)
      have HDO := Lib.hid hdo
      clear hcj hcm hdo h80
      go_wp2_with fail
      refine HDO.out.mono ?_
      rintro e w4 ⟨rfl, ⟨new, o1, o2⟩, o3⟩
      obtain ⟨l1, l2, l3⟩ := doC_len D c new
      have hR4 : RoomsAt w w4 bd (j + 1) 16777216 (D.doC c new) :=
        ⟨o2.mono fun k hk => hk.elim id fun h => Nat.le_trans HW.out.below.size h, o1, by have := HW.out.loose; omega, by have := HW.out.files; omega, l3.trans HW.out.limit, HW.out.below.trans (o3.below HW.out.below.size (fun i hi => hi))⟩
      generalize D.doC c new = D' at *
      have HW4 := Lib.hid hR4
      have hj1 : wrap64 ((j : Int) + 1) = ((j + 1 : Nat) : Int) := by have := H80.out; unfold wrap64; omega
      clear o1 o2 o3 l1 l2 l3 hR4 HDO HW c0 c1 c2 c3 c4 hbl
      go_wp2_with fail
      rw [hj1]
      refine ⟨⟨j + 1, D', by omega, rfl, HW4.out⟩, ?_⟩
      simp [intOf]; omega
    · have h80 := H80.out
      have hCR := crash_calls _ bd D keep wr HW.out.disk HW.out.ok (by have := HW.out.loose; omega) HK.out.1 HK.out.2
      have HCR := Lib.hid hCR
      clear hCR h80 HC HCI
      go_wp2_with fail
      refine HCR.out.mono ?_
      rintro e w4 ⟨rfl, o1, o2⟩
      have hlen := crash_len D keep.toNat
      have H1 : Hid (∀ k, (D.crash keep.toNat).crash k = D.crash keep.toNat) := fun k => crash_twice D _ k
      have HOK : Hid (D.crash keep.toNat).Ok := HW.out.ok.crash _
      have HFL : Hid ((D.crash keep.toNat).files.length ≤ 80) := by have := HW.out.files; have := H80.out; unfold Hid; omega
      have HLL : Hid ((D.crash keep.toNat).loose = []) := rfl
      have HB4 := Lib.hid (HW.out.below.trans (o2.below HW.out.below.size (fun i hi => hi)))
      have HD4 : Hid (DiskAt (fun k => w.heap.size ≤ k ∧ k < w4.heap.size) w4 bd (D.crash keep.toNat)) := (o1.mono fun k hk => hk.elim id fun h => Nat.le_trans HW.out.below.size h).tight
      clear o1 o2 hlen HCR HW
      generalize D.crash keep.toNat = D1 at *
      have HNM := Lib.hid (names_calls _ bd D1 w4 HD4.out HOK.out (by have := HFL.out; omega))
      go_wp2_with fail
      refine HNM.out.mono ?_
      rintro e w5 ⟨⟨A5, c5, rfl, hnm⟩, hb5⟩
      have HNB := Lib.hid hnm
      have HRN := Lib.hid (hnm.rd encS_len)
      have HB5 := Lib.hid hb5
      have HSZ := Lib.hid (size_calls _ bd D1 w5 (HD4.out.below hb5) HOK.out)
      clear hnm hb5 HNM
      go_wp2_with fail
      refine HSZ.out.mono ?_
      rintro e w6 ⟨rfl, hb6⟩
      have HB6 := Lib.hid (HB5.out.trans (hb6.mono HB5.out.size))
      have HN6 := Lib.hid (HRN.out.below hb6)
      have HA5 : Hid (∀ a, A5 = some a → w4.heap.size ≤ a.block ∧ a.block < w6.heap.size) := fun a ha => by
        rcases HNB.out.shape with ⟨h, _⟩ | ⟨x, h, h2, h3⟩
        · rw [h] at ha; cases ha
        · rw [h] at ha; injection ha with ha; subst ha; exact ⟨h2, Nat.lt_of_lt_of_le h3 hb6.size⟩
      clear hb6 HSZ HRN HNB HB5
      go_wp2_with fail
      go_loopw [12, 13] (fun ov iv wr => ∃ (k : Nat) (O : Option Addr) (oc : Nat) (rows : List BRow), k ≤ D1.files.length ∧ iv = .int .i64 k ∧ ov = .slice O k oc ∧ Hid (OwnR wr w6.heap.size O k oc rows) ∧ Hid (OldRows w4.heap.size wr D1 k O rows) ∧ Hid (Below w6.heap.size w6 wr)) (fun _ iv _ => D1.files.length - (intOf iv).toNat)
      case atStart => exact ⟨0, _, 0, [], Nat.zero_le _, rfl, rfl, Own.lit _ _ _ _ _ (Nat.le_refl _), ⟨(fun r hr => nomatch hr), (fun r hr => nomatch hr), (fun _ _ r hr => nomatch hr), rfl⟩, (Below.refl _ _).alloc (Nat.le_refl _) _⟩
      case round =>
        obtain ⟨k, O, oc, rows, hk, rfl, rfl, HOW, HOR, HB7⟩ := hrel
        by_cases hkl : k < D1.files.length
        · obtain ⟨s, sb, so, hs, rfl, _, e0⟩ := (HN6.out.below HB7.out).get k hkl
          have s0 := e0 0 _ rfl
          simp only [Nat.mul_one, Nat.add_zero] at s0
          have hsm := List.mem_of_getElem? hs
          obtain ⟨f, hf, hfn⟩ := names_mem.1 hsm
          have hsz : s.size ≤ maxLen := by
            have := (HOK.out.right f hf).2
            rw [← hfn]; unfold maxLen; omega
          have hfd : findD D1.files s = some f := by rw [← hfn]; exact findD_mem HOK.out.names hf
          have hrd := read_calls _ bd D1 s _ ((HD4.out.below HB6.out).below HB7.out) HOK.out hsz
          rw [hfd] at hrd
          have HRD := Lib.hid hrd
          have HBX : Hid (bytesD D1.files s = f.xs) := by unfold Hid bytesD; rw [hfd]
          have HS := Lib.hid hs
          have hkfl : k ≤ 80 := by have := HFL.out; omega
          clear e0 hsm hf hfn hsz hfd hrd hs
          go_wp2_with fail
          refine HRD.out.mono ?_
          rintro e w8 ⟨⟨v, rfl, hv⟩, hb8⟩
          obtain ⟨A8, c8, rfl, hr8, hn8, hl8⟩ := hv.is
          have HOW8 := Lib.hid (HOW.out.below hb8)
          have HOR8 := Lib.hid (HOR.out.below hb8)
          have HB8 := Lib.hid (HB7.out.trans (hb8.mono HB7.out.size))
          have hOlt : Hid (∀ x, O = some ⟨x, 0, none⟩ → x < wr.heap.size) := fun x hx => by
            rcases HOW.out.shape with ⟨h, _⟩ | ⟨y, h, _, h3⟩
            · rw [h] at hx; cases hx
            · rw [h] at hx; injection hx with hx; injection hx with hx; omega
          have HR8 := Lib.hid hr8
          have HL8 := Lib.hid hl8
          have HN8 := Lib.hid hn8
          clear hv hb8 HRD HOW HOR hr8 hl8 hn8
          have hbase : Hid (w6.heap.size ≤ w8.heap.size) := HB8.out.size
          have hlow : Hid (w4.heap.size ≤ wr.heap.size) := Nat.le_trans HB6.out.size HB7.out.size
          go_wp2_with (at_builtin; refine app_row rfl (.tmp 68) (.tmp 70) rfl ⟨A8, f.xs.length, c8, f.xs⟩ rfl HOW8.out rfl rfl (by omega) hbase.out ?_; intro g3 ac' w9 h1 h2 h3 h4)
          have HB9 := Lib.hid (HB8.out.trans (h2.below hbase.out (own_above HOW8.out)))
          refine ⟨⟨k + 1, some ⟨g3, 0, none⟩, ac', rows ++ [(⟨A8, f.xs.length, c8, f.xs⟩ : BRow)], by omega, by go_num, rfl, h1, HOR8.out.more h2 HS.out ⟨HR8.out, HN8.out⟩ HBX.out (fun a ha => Nat.le_trans hlow.out (HL8.out a ha)) (fun x hx _ a ha => by have := hOlt.out x hx; have := HL8.out a ha; omega) h3, HB9.out⟩, ?_⟩
          simp [intOf]; omega
        · have HCR := Lib.hid (crash_calls _ bd D1 again wr ((HD4.out.below HB6.out).below HB7.out) HOK.out (by rw [HLL.out]; exact Nat.zero_le _) HAG.out.1 HAG.out.2)
          have HN7 := Lib.hid (HN6.out.below HB7.out)
          have hke : k = D1.files.length := by omega
          have HKE := Lib.hid hke
          clear hk hke
          go_wp2_with fail
          refine HCR.out.mono ?_
          rintro e w10 ⟨rfl, o1, o2⟩
          rw [H1.out] at o1
          have HD10 : Hid (DiskAt (Plus (fun k => w.heap.size ≤ k ∧ k < w4.heap.size) wr.heap.size) w10 bd D1) := o1
          have HN10 := Lib.hid (HN7.out.only o2 fun a ha hS => by have := (HA5.out a ha).1; exact absurd hS.2 (by omega))
          have HRB10 : Hid (Rd 1 BRow.l w10 O k rows) := (HOW.out.only o2 fun g hg hS => by have := own_above HOW.out g hg; have := HB6.out.size; exact absurd hS.2 (by omega)).rd BRow.l_len
          have HRO10 : Hid (∀ r ∈ rows, BRowOk w10 r) := fun r hr => (HOR.out.ok r hr).only o2 fun a ha hS => by have := HOR.out.from_ r hr a ha; exact absurd hS.2 (by omega)
          have HIS : Hid (rows.map BRow.xs = (namesB D1.files).map (bytesD D1.files)) := by
            have := HOR.out.is
            rwa [List.take_of_length_le (by rw [names_len, HKE.out]; exact Nat.le_refl _)] at this
          have hsz1 : w.heap.size ≤ w4.heap.size := HB4.out.size
          have hsz2 : w4.heap.size ≤ w6.heap.size := HB6.out.size
          have hsz3 : w6.heap.size ≤ wr.heap.size := HB7.out.size
          have HB10 : Hid (Below w.heap.size w w10) := ((HB4.out.trans (HB6.out.mono hsz1)).trans (HB7.out.mono (Nat.le_trans hsz1 hsz2))).trans (o2.below (Nat.le_trans hsz1 (Nat.le_trans hsz2 hsz3)) fun i hi => hi.1)
          clear o1 o2 HCR HN7 HOW HOR HB7 HN6 HA5 HB6 HD4 HB4 hsz1 hsz2 hsz3
          have HNM := Lib.hid (names_calls _ bd D1 w10 HD10.out HOK.out (by have := HFL.out; omega))
          go_wp2_with fail
          refine HNM.out.mono ?_
          rintro e w11 ⟨⟨A11, c11, rfl, hnm⟩, hb11⟩
          have hst := samet_calls A11 A5 D1.files.length D1.files.length c11 c5 _ _ w11 (hnm.rd encS_len) (HN10.out.below hb11) (by have := HFL.out; omega) (by have := HFL.out; omega)
          rw [decide_eq_true rfl] at hst
          have HST := Lib.hid hst
          have HB11 := Lib.hid hb11
          clear hst hnm hb11 HNM
          go_wp2_with fail
          refine HST.out.mono ?_
          rintro e w12 ⟨rfl, q, hw12⟩
          have hb12 := drewN_below w11 q
          rw [← hw12] at hb12
          have HB12 := Lib.hid (HB11.out.trans (hb12.mono HB11.out.size))
          have HSZ := Lib.hid (size_calls _ bd D1 w12 (HD10.out.below HB12.out) HOK.out)
          clear hw12 hb12 HST HB11
          go_wp2_with fail
          refine HSZ.out.mono ?_
          rintro e w13 ⟨rfl, hb13⟩
          have HB13 := Lib.hid (HB12.out.trans (hb13.mono HB12.out.size))
          clear hb13 HSZ HB12
          go_wp2_with fail
          go_loopw [16] (fun iv wr => ∃ m : Nat, m ≤ D1.files.length ∧ iv = .int .i64 m ∧ Hid (Below w10.heap.size w10 wr)) (fun iv _ => D1.files.length - (intOf iv).toNat)
          case atStart => exact ⟨0, Nat.zero_le _, rfl, HB13.out⟩
          case round =>
            clear HB13
            obtain ⟨m, hm, rfl, HB14⟩ := hrel
            by_cases hml : m < D1.files.length
            · obtain ⟨s, sb, so, hs, rfl, _, e0⟩ := (HN10.out.below HB14.out).get m hml
              obtain ⟨r, rb, ro, hr, rfl, _, e1⟩ := (HRB10.out.below HB14.out).get m (by rw [HKE.out]; exact hml)
              have s0 := e0 0 _ rfl
              have r0 := e1 0 _ rfl
              simp only [Nat.mul_one, Nat.add_zero] at s0 r0
              have hsm := List.mem_of_getElem? hs
              obtain ⟨f, hf, hfn⟩ := names_mem.1 hsm
              have hsz : s.size ≤ maxLen := by
                have := (HOK.out.right f hf).2
                rw [← hfn]; unfold maxLen; omega
              have hfd : findD D1.files s = some f := by rw [← hfn]; exact findD_mem HOK.out.names hf
              have hrd := read_calls _ bd D1 s _ (HD10.out.below HB14.out) HOK.out hsz
              rw [hfd] at hrd
              have HRD := Lib.hid hrd
              have hbx : bytesD D1.files s = f.xs := by unfold bytesD; rw [hfd]
              have hrx : r.xs = f.xs := by
                have := congrArg (fun l => l[m]?) HIS.out
                simp only [List.getElem?_map, hr, hs, Option.map_some, Option.some.injEq] at this
                rw [this, hbx]
              have hrok := HRO10.out r (List.mem_of_getElem? hr)
              have hfl : f.xs.length ≤ 16777216 := by have := size_mem hf; have := HOK.out.fits; have := HOK.out.small; omega
              have hrn : r.n ≤ 16777216 := by rw [hrok.rd.len, hrx]; exact hfl
              have HRR := Lib.hid (hrok.rd.below HB14.out)
              have HRX := Lib.hid hrx
              have HFLX := Lib.hid hfl
              have HRNN := Lib.hid hrn
              clear e0 e1 hs hr hsm hf hfn hsz hfd hrd hbx hrx hrok hfl hrn
              go_wp2_with fail
              refine HRD.out.mono ?_
              rintro e w15 ⟨⟨v, rfl, hv⟩, hb15⟩
              obtain ⟨A8, c8, rfl, hr8, _, _⟩ := hv.is
              have hsb := sameb_calls A8 r.A f.xs.length r.n c8 r.cap f.xs r.xs w15 hr8 (HRR.out.below hb15) (by have := HFLX.out; omega) (by have := HRNN.out; omega)
              rw [decide_eq_true HRX.out.symm] at hsb
              have HSB := Lib.hid hsb
              have r1 := below_cell hb15 (Nat.le_refl _) r0
              have HB15 := Lib.hid (HB14.out.trans (hb15.mono HB14.out.size))
              clear hv hb15 HRD hr8 hsb s0 r0
              go_wp2_with fail
              refine HSB.out.mono ?_
              rintro e w16 ⟨rfl, q2, hw16⟩
              have hb16 := drewN_below w15 q2
              rw [← hw16] at hb16
              have HB16 := Lib.hid (HB15.out.trans (hb16.mono HB15.out.size))
              have hm1 : wrap64 ((m : Int) + 1) = ((m + 1 : Nat) : Int) := by have := HFL.out; unfold wrap64; omega
              clear hw16 hb16 HSB r1
              go_wp2_with fail
              rw [hm1]
              refine ⟨⟨m + 1, by omega, rfl, HB16.out⟩, ?_⟩
              simp [intOf]; omega
            · have HBF := Lib.hid (HB10.out.trans (HB14.out.mono HB10.out.size))
              go_wp2
              go_ret
              exact ⟨rfl, HBF.out⟩
theorem twice_law (A : Option Addr) (n ca : Nat) (cs : List CallD) (keep again : Int) (w : World) (h : RdC w A n cs ∧ ∀ c ∈ cs, CallIn w c) (hk : -9223372036854775808 ≤ keep ∧ keep < 9223372036854775808) (ha : -9223372036854775808 ≤ again ∧ again < 9223372036854775808) (_ : True) :
    Calls Try.prog 5 #[.slice A n ca, .int .i64 keep, .int .i64 again] w fun e w' => e = .returned (.bool true) ∧ Below w.heap.size w w' := twice_calls A n ca cs keep again w h.1 h.2 hk ha
end Go.Proofs.Ytmjoepipcmglkaa
