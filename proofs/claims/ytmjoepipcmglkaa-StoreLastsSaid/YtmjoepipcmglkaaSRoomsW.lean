/-
  StoreRooms, walked.
-/
import Derived.Test.YtmjoepipcmglkaaSRooms
namespace Go.Proofs.Ytmjoepipcmglkaa
open Go.RowKit Go.Maps

/-- Behind so many calls. -/
structure RoomsAt (w wr : World) (bd j : Nat) (room : Nat) (D : DiskD) : Prop where
  disk : DiskAt (fun k => w.heap.size ≤ k) wr bd D
  ok : D.Ok
  loose : D.loose.length ≤ j
  files : D.files.length ≤ j
  limit : D.limit = room
  below : Below w.heap.size w wr

set_option maxHeartbeats 4000000 in
set_option maxRecDepth 20000 in
theorem rooms_calls (room : Int) (A : Option Addr) (n ca : Nat) (cs : List CallD) (w : World) (h : RdC w A n cs) (hc : ∀ c ∈ cs, CallIn w c) :
    Calls Try.prog 6 #[.int .i64 room, .slice A n ca] w fun e w' => e = .returned (.bool true) ∧ Below w.heap.size w w' := by
  have HA := Lib.hid (alive_calls w)
  have HR := Lib.hid h
  have HCI := Lib.hid hc
  clear h hc
  go_enter Try.func6, Try.ntmps6
  go_wp2_with fail
  refine HA.out.mono ?_
  rintro e w1 ⟨rfl, hb1⟩
  have HG := Lib.hid (great_calls A n ca cs w1 (HR.out.below hb1) fun c hm => (HCI.out c hm).below hb1)
  have HB1 := Lib.hid hb1
  clear hb1 HA
  go_wp2_with fail
  refine HG.out.mono ?_
  rintro e w2 ⟨⟨t, rfl, ht⟩, hb2⟩
  have HB2 := Lib.hid (HB1.out.trans (hb2.mono HB1.out.size))
  clear hb2 HG HB1
  cases t with
  | true =>
    clear ht
    go_wp2
    go_ret
    exact ⟨rfl, HB2.out⟩
  | false =>
  have H80 := Lib.hid (ht rfl).1
  have HC : Hid (∀ c ∈ cs, CallOk w c) := fun c hm => (HCI.out c hm).ok ((ht rfl).2 c hm)
  clear ht
  by_cases hroom : room < 0 ∨ 16777216 < room
  · have HN := Lib.hid (new_bad room w2 hroom)
    go_wp2_with fail
    refine HN.out.mono ?_
    rintro e w3 ⟨rfl, rfl⟩
    rcases hroom with h0 | h0
    · go_wp2
      go_ret
      exact ⟨rfl, HB2.out⟩
    · have h1 : ¬ room < 0 := by omega
      go_wp2
      go_ret
      exact ⟨rfl, HB2.out⟩
  · obtain ⟨r, rfl⟩ : ∃ r : Nat, room = r := ⟨room.toNat, by omega⟩
    have hr : r ≤ 16777216 := by omega
    have HN := Lib.hid (new_calls r w2 hr)
    clear hroom
    go_wp2_with fail
    refine HN.out.mono ?_
    rintro e w3 ⟨bd, rfl, hd, hb3⟩
    have HB3 := Lib.hid (HB2.out.trans (hb3.mono HB2.out.size))
    have HD3 : Hid (DiskAt (fun k => w.heap.size ≤ k) w3 bd ⟨[], [], r⟩) := hd.mono fun k hk => Nat.le_trans HB2.out.size hk
    clear hd hb3 HN HB2
    go_wp2_with fail
    go_loopw [7] (fun i wr => ∃ (j : Nat) (D : DiskD), j ≤ n ∧ i = .int .i64 j ∧ Hid (RoomsAt w wr bd j r D)) (fun i _ => n - (intOf i).toNat)
    case atStart => exact ⟨0, _, Nat.zero_le _, rfl, ⟨HD3.out, ok_new r hr, Nat.le_refl _, Nat.le_refl _, rfl, HB3.out⟩⟩
    case round =>
      clear HD3 HB3
      obtain ⟨j, D, hj, rfl, HW⟩ := hrel
      by_cases hjn : j < n
      · obtain ⟨c, b, off, hcj, rfl, hbl, c0, c1, c2, c3, c4⟩ := rdc (HR.out.below HW.out.below) j hjn
        have hcm := List.mem_of_getElem? hcj
        have h80 := H80.out
        have hdo := do_calls _ bd D c wr HW.out.disk HW.out.ok ((HC.out c hcm).below HW.out.below) (by have := HW.out.loose; omega) (by have := HW.out.files; omega)
        have HDO := Lib.hid hdo
        clear hcj hcm hdo h80
        go_wp2_with fail
        refine HDO.out.mono ?_
        rintro e w4 ⟨rfl, ⟨new, o1, o2⟩, o3⟩
        obtain ⟨l1, l2, l3⟩ := doC_len D c new
        have hR4 : RoomsAt w w4 bd (j + 1) r (D.doC c new) :=
          ⟨o2.mono fun k hk => hk.elim id fun h => Nat.le_trans HW.out.below.size h, o1, by have := HW.out.loose; omega, by have := HW.out.files; omega, l3.trans HW.out.limit, HW.out.below.trans (o3.below HW.out.below.size (fun i hi => hi))⟩
        generalize D.doC c new = D' at *
        have HW4 := Lib.hid hR4
        have h80 := H80.out
        have HNM := Lib.hid (names_calls _ bd D' w4 hR4.disk hR4.ok (by have := hR4.files; omega))
        clear o1 o2 o3 l1 l2 l3 hR4 h80 HDO HW c0 c1 c2 c3 c4 hbl
        go_wp2_with fail
        refine HNM.out.mono ?_
        rintro e w5 ⟨⟨A5, c5, rfl, hnm⟩, hb5⟩
        have HNB := Lib.hid hnm
        have HB5 := Lib.hid hb5
        clear hnm hb5 HNM
        have HRN := Lib.hid (HNB.out.rd encS_len)
        go_wp2_with fail
        go_loopw [9, 10] (fun sv iv wr5 => ∃ k : Nat, k ≤ D'.files.length ∧ iv = .int .i64 k ∧ sv = .int .i64 (sumN D'.files ((namesB D'.files).take k)) ∧ Hid (Below w5.heap.size w5 wr5)) (fun _ iv _ => D'.files.length - (intOf iv).toNat)
        case atStart => exact ⟨0, Nat.zero_le _, rfl, rfl, Below.refl _ _⟩
        case round =>
          obtain ⟨k, hk, rfl, rfl, HB6⟩ := hrel
          by_cases hkl : k < D'.files.length
          · obtain ⟨s, sb, so, hs, rfl, _, e0⟩ := (HRN.out.below HB6.out).get k hkl
            have s0 := e0 0 _ rfl
            simp only [Nat.mul_one, Nat.add_zero] at s0
            have hsm := List.mem_of_getElem? hs
            obtain ⟨f, hf, hfn⟩ := names_mem.1 hsm
            have hsz : s.size ≤ maxLen := by
              have := (HW4.out.ok.right f hf).2
              rw [← hfn]; unfold maxLen; omega
            have hfd : findD D'.files s = some f := by rw [← hfn]; exact findD_mem HW4.out.ok.names hf
            have hrd := read_calls _ bd D' s _ ((HW4.out.disk.below HB5.out).below HB6.out) HW4.out.ok hsz
            rw [hfd] at hrd
            have HRD := Lib.hid hrd
            have hbx : bytesD D'.files s = f.xs := by unfold bytesD; rw [hfd]
            have hsum := sumN_take (fs := D'.files) hs
            have hle := sumN_le D'.files (namesB D'.files) (k + 1)
            rw [sumN_all HW4.out.ok.names] at hle
            rw [hbx] at hsum
            have hfit := HW4.out.ok.fits
            have hsml := HW4.out.ok.small
            have f1 : (sumN D'.files ((namesB D'.files).take k) : Int) + f.xs.length ≤ 16777216 := by omega
            have HSUM := Lib.hid hsum
            have HS := Lib.hid hs
            clear e0 hsm hf hfn hsz hfd hrd hbx hsum hle hfit hsml hs
            go_wp2_with fail
            refine HRD.out.mono ?_
            rintro e w6 ⟨⟨v, rfl, hv⟩, hb6⟩
            obtain ⟨A6, c6, rfl, _, _, _⟩ := hv.is
            have s1 := below_cell hb6 (Nat.le_refl _) s0
            have HB7 := Lib.hid (HB6.out.trans (hb6.mono HB6.out.size))
            clear hv hb6 HRD s0
            go_wp2_with fail
            by_cases hk0 : k = 0
            · subst hk0
              refine wp_region_later (by kernel_rfl) (by kernel_rfl) ?_
              repeat (go_big_quiet_step (fail))
              refine wpQuiet_nil ?_
              intro W1 hW1
              have hbw : Below w6.heap.size w6 W1 := by
                obtain ⟨X, rfl⟩ := hW1
                exact later_below w6 X
              have HB8 := Lib.hid (HB7.out.trans (hbw.mono HB7.out.size))
              clear hW1 hbw
              go_wp2
              go_roundw
              case rel => exact ⟨1, by omega, by go_num, by have h9 := HSUM.out; simp only [List.take_zero, Nat.zero_add] at h9 f1; rw [h9, show wrap64 ((sumN D'.files [] : Int) + f.xs.length) = (sumN D'.files [] : Int) + f.xs.length by unfold wrap64; omega, Int.natCast_add], HB8.out⟩
              case measure => simp [intOf]; omega
            · obtain ⟨k', rfl⟩ : ∃ k' : Nat, k = k' + 1 := ⟨k - 1, by omega⟩
              obtain ⟨p, pb, po, hp, hA, _, e1⟩ := (HRN.out.below HB7.out).get k' (by omega)
              cases hA
              have p0 := e1 0 _ rfl
              simp only [Nat.mul_one, Nat.add_zero] at p0
              have P1 := later_cell p0
              have S1 := later_cell s1
              have hneg := names_rise HW4.out.ok.names hp HS.out
              have hpm := List.mem_of_getElem? hp
              have hsm := List.mem_of_getElem? HS.out
              obtain ⟨f2, hf2, hfn2⟩ := names_mem.1 hpm
              obtain ⟨f3, hf3, hfn3⟩ := names_mem.1 hsm
              have hpz : p.size ≤ 140737488351232 := by
                have := (HW4.out.ok.right f2 hf2).2
                rw [← hfn2]; omega
              have hsz : s.size ≤ 140737488351232 := by
                have := (HW4.out.ok.right f3 hf3).2
                rw [← hfn3]; omega
              have hT : Hid (∀ X, Calls Try.prog 29 #[.string p, .string s] (w6.later X) fun e w'' => e = .returned (.int .i64 (cmpS p s)) ∧ ∃ Y, w'' = w6.later Y) := fun X => calls_later_drew (texts_calls p s _ hpz hsz)
              have hneg2 : decide (cmpS p s ≥ 0) = false := decide_eq_false (by omega)
              have hfl81 : D'.files.length ≤ 1000000 := by have := HW4.out.files; have := H80.out; omega
              have hk2 : wrap64 (((k' + 1 : Nat) : Int) - 1) = k' := by unfold wrap64; omega
              have hk4 : k' < D'.files.length := by omega
              generalize cmpS p s = cps at *
              clear hp e1 p0 s1 hneg hpm hsm hf2 hfn2 hf3 hfn3 hpz hsz hk0
              refine wp_region_later (by kernel_rfl) (by kernel_rfl) ?_
              repeat (go_big_quiet_step ((go_at_call 29; exact hT.out _)))
              refine wpQuiet_nil ?_
              intro W1 hW1
              have hbw : Below w6.heap.size w6 W1 := by
                obtain ⟨X, rfl⟩ := hW1
                exact later_below w6 X
              have HB8 := Lib.hid (HB7.out.trans (hbw.mono HB7.out.size))
              clear hW1 hbw hT P1 S1 hneg2 hk2
              go_wp2
              go_roundw
              case rel => exact ⟨k' + 1 + 1, by omega, by go_num, by rw [HSUM.out, Int.natCast_add], HB8.out⟩
              case measure => simp [intOf]; omega
          · have hke : k = D'.files.length := by omega
            have hsum : sumN D'.files ((namesB D'.files).take k) = sizeL D'.files := by rw [hke, ← names_len, List.take_length]; exact sumN_all HW4.out.ok.names
            rw [hsum]
            clear hsum hke hk
            have hlim := HW4.out.limit
            have hfit := HW4.out.ok.fits
            have hloo := HW4.out.ok.loose_le
            have hfew := HW4.out.loose
            have h80 := H80.out
            rw [hlim] at hfit
            have hD5 := (HW4.out.disk.below HB5.out).below HB6.out
            have HSZ := Lib.hid (size_calls _ bd D' _ hD5 HW4.out.ok)
            have HD5 := Lib.hid hD5
            have HFEW : Hid (D'.loose.length ≤ 1000000) := by unfold Hid; omega
            have HLIM := Lib.hid hlim
            have HR5 := Lib.hid (HB5.out.trans (HB6.out.mono HB5.out.size))
            have HOK := Lib.hid HW4.out.ok
            have HW5 := Lib.hid HW4.out
            clear hlim hfew hD5 h80 HB6 HB5 HW4 HNB HRN
            generalize hsz : sizeL D'.files = sz at *
            generalize hlo : looseL D'.loose = lo at *
            have Hsz := Lib.hid hsz
            have Hlo := Lib.hid hlo
            clear hsz hlo
            go_wp2_with fail
            refine HSZ.out.mono ?_
            rintro e w6 ⟨rfl, hb6⟩
            have hD6 := HD5.out.below hb6
            have HRM := Lib.hid (room_calls _ bd D' _ hD6 HOK.out)
            rw [HLIM.out, Hsz.out] at HRM
            have HD6 := Lib.hid hD6
            have HR6 := Lib.hid (HR5.out.trans (hb6.mono HR5.out.size))
            have hrz : wrap64 ((r : Int) - (sz : Int)) = (r : Int) - sz := by unfold wrap64; omega
            clear hD6 hb6 HSZ HD5 HR5
            go_wp2_with fail
            refine HRM.out.mono ?_
            rintro e w7 ⟨rfl, hb7⟩
            have hD7 := HD6.out.below hb7
            have HRM := Lib.hid (room_calls _ bd D' _ hD7 HOK.out)
            rw [HLIM.out, Hsz.out] at HRM
            have HD7 := Lib.hid hD7
            have HR7 := Lib.hid (HR6.out.trans (hb7.mono HR6.out.size))
            clear hD7 hb7 HD6 HR6
            go_wp2_with fail
            refine HRM.out.mono ?_
            rintro e w8 ⟨rfl, hb8⟩
            have hD8 := HD7.out.below hb8
            have HLS := Lib.hid (loose_calls _ bd D' _ hD8 HOK.out HFEW.out)
            rw [Hlo.out] at HLS
            have HR8 := Lib.hid (HR7.out.trans (hb8.mono HR7.out.size))
            have hneg : ¬ ((r : Int) - sz < 0) := by omega
            clear hD8 hb8 HRM HR7 HD7
            go_wp2_with fail
            refine HLS.out.mono ?_
            rintro e w9 ⟨rfl, hb9⟩
            have HR9 := Lib.hid (HR8.out.trans (hb9.mono HR8.out.size))
            have hgt : ¬ ((lo : Int) > sz) := by omega
            clear hb9 HLS HR8
            go_wp2_with fail
            have hj1 : wrap64 ((j : Int) + 1) = ((j + 1 : Nat) : Int) := by have := H80.out; unfold wrap64; omega
            rw [hj1]
            refine ⟨⟨j + 1, D', by omega, rfl, ⟨HW5.out.disk.below HR9.out, HW5.out.ok, HW5.out.loose, HW5.out.files, HW5.out.limit, HW5.out.below.trans (HR9.out.mono HW5.out.below.size)⟩⟩, ?_⟩
            simp [intOf]; omega
      · have HWB := Lib.hid HW.out.below
        clear HW
        go_wp2
        go_ret
        exact ⟨rfl, HWB.out⟩
theorem rooms_law (room : Int) (A : Option Addr) (n ca : Nat) (cs : List CallD) (w : World) (_ : -9223372036854775808 ≤ room ∧ room < 9223372036854775808) (h : RdC w A n cs ∧ ∀ c ∈ cs, CallIn w c) (_ : True) :
    Calls Try.prog 6 #[.int .i64 room, .slice A n ca] w fun e w' => e = .returned (.bool true) ∧ Below w.heap.size w w' := rooms_calls room A n ca cs w h.1 h.2
end Go.Proofs.Ytmjoepipcmglkaa
