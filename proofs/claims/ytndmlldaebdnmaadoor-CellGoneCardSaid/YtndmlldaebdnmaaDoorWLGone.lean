/-
  CellGone, walked: it answers true and turns nothing that was there.
-/
import Derived.Test.YtndmlldaebdnmaaDoorWHit
import Derived.Test.YtndmlldaebdnmaaDoorWLLess
import Derived.Test.YtndmlldaebdnmaaDoorJRRight
import Derived.Deep.RegionLaw
import Derived.Deep.DeepCutAuto
import Derived.Deep.CutBlock
namespace Go.Proofs.YtndmlldaebdnmaaDoor
open Go.RowKit

attribute [local go_sem high] eqCell
theorem below_box (W : World) (d : Cell) : Below W.heap.size W (W.drew.alloc (.cells d.cells 31)) := (below_drew1 W).alloc (Nat.le_refl _) _
theorem box_at (W : World) (d : Cell) {w3 : World} (hb : Below (W.drew.alloc (.cells d.cells 31)).heap.size (W.drew.alloc (.cells d.cells 31)) w3) : ∀ (j : Nat) (u : Value), d.l[j]? = some u → w3.cell? ⟨W.heap.size, j, none⟩ = some u := fun j u hj =>
  below_cell hb (Nat.le_refl _) ((one_box W.drew d.cells 31).2 j u (by simpa [Cell.l] using hj))
theorem app_below {W1 Wb w3 w4 w5 : World} {A : Option Addr} {n cap : Nat} {xs : List Cell} (h1 : Below W1.heap.size W1 Wb) (h2 : Below Wb.heap.size Wb w3) (ho : OwnC w3 Wb.heap.size A n cap xs) (hn : Only (fun k => A = some ⟨k, 0, none⟩) w4 w5) (h4 : Below w3.heap.size w3 w4) : Below W1.heap.size W1 w5 := by
  have s1 := h1.size
  have s2 := h2.size
  have s4 := h4.size
  refine ((h1.trans (h2.mono s1)).trans (h4.mono (by omega))).trans (hn.below (B := W1.heap.size) (by omega) (fun i hi => ?_))
  rcases ho.shape with ⟨h, _⟩ | ⟨q, h, h5, _⟩
  · rw [h] at hi; cases hi
  · rw [h] at hi; injection hi with hi; injection hi with hi; omega
theorem At8.get0 {w : World} {b : Nat} {c : Cell} (h : At8 w b 0 c) : w.cell? ⟨b, 0, none⟩ = some (.string c.row) ∧ w.cell? ⟨b, 1, none⟩ = some (.string c.fam) ∧ w.cell? ⟨b, 2, none⟩ = some (.string c.qual) ∧ w.cell? ⟨b, 3, none⟩ = some (.int .i64 c.time) ∧
    w.cell? ⟨b, 4, none⟩ = some (.int .i64 c.kind) ∧ w.cell? ⟨b, 5, none⟩ = some (.int .i64 c.vk) ∧ w.cell? ⟨b, 6, none⟩ = some (.int .i64 c.vn) ∧ w.cell? ⟨b, 7, none⟩ = some (.string c.vs) := by
  have := h.get
  simpa using this

set_option maxHeartbeats 4000000 in
set_option maxRecDepth 100000 in
theorem lgone_calls (a : Option Addr) (n ca : Nat) (xs : List Cell) (d : Cell) (now : Int) (w : World) (hx : ArgC w a n ca xs) (hd : d.fits) (_ : isInt now) (hT : Lib.Utf8Tabs 0 1 w) :
    Calls Tryd.prog 5 #[.slice a n ca, d.v, .int .i64 now] w fun e w' => e = .returned (.bool true) ∧ Below w.heap.size w w' := by
  obtain ⟨hB0, cb0⟩ := one_box w d.cells 31
  obtain ⟨W0, hW0⟩ : ∃ W0, W0 = w.alloc (.cells d.cells 31) := ⟨_, rfl⟩
  rw [← hW0] at hB0 cb0
  have hC0 : At8 W0 w.heap.size 0 d := fun j v hv => by rw [Nat.zero_add]; exact cb0 j v (by simpa [Cell.l] using hv)
  have HX := Lib.hid hx
  have HDF := Lib.hid hd
  have HT := Lib.hid hT
  have HW0 := Lib.hid hW0
  have HB0 := Lib.hid hB0
  have HC0 := Lib.hid hC0
  have hal := Lib.hid (alive_calls W0 (tabs_below hT hB0))
  clear hx hd hT hB0 cb0 hW0 hC0
  go_enter Tryd.func5, Tryd.ntmps5
  go_wp2_with fail
  rw [← HW0.out]
  refine hal.out.mono ?_
  clear hal
  rintro e W1 ⟨rfl, hb1⟩
  have HB1 := Lib.hid (HB0.out.trans (hb1.mono HB0.out.size))
  have HD1 := Lib.hid (HC0.out.below hb1)
  have hcopy : Hid (∀ W, Below W1.heap.size W1 W → Calls Tryd.prog 14 #[.slice a n ca] W (OutC xs W)) := fun W hb => copy_all a n ca xs W ((HX.out.1.below HB1.out).below hb) HX.out.2.2.1 (by have := HX.out.2.2.2; omega)
  clear hb1 HC0 HB0 HW0
  have hn0 : xs.length ≤ 1466015503700 := by have := HX.out.1.len; have := HX.out.2.2.2; omega
  obtain ⟨k0, k1, k2, k3, k4, k5, k6, k7⟩ := HD1.out.get0
  have hcases : longC (xs ++ [d]) 60 = true ∨ (longC (xs ++ [d]) 60 = false ∧ (d.kind == 1) = true) ∨ (longC (xs ++ [d]) 60 = false ∧ (d.kind == 1) = false ∧ d.ok = false) ∨ (longC (xs ++ [d]) 60 = false ∧ (d.kind == 1) = false ∧ d.ok = true) := by
    cases longC (xs ++ [d]) 60 <;> cases (d.kind == 1) <;> cases d.ok <;> simp
  have hbd : Below W1.heap.size W1 W1.drew := below_drew1 W1
  go_upto_region 3 with fail
  go_cut [29] (fun x wx => Hid (Below W1.heap.size W1 wx) ∧ ((x = .bool true) ∨ (x = .bool false ∧ Hid (longC (xs ++ [d]) 60 = false ∧ (d.kind == 1) = false ∧ d.ok = true))))
  case first =>
    rcases hcases with h1 | ⟨h1, h2⟩ | ⟨h1, h2, h3⟩ | ⟨h1, h2, h3⟩
    all_goals
      first | (go_region_law (first
        | (refine step_app_cell rfl (.tmp 15) (.tmp 17) rfl d rfl (HOc.out.below (one_box _ _ _).1) rfl (fun j u hj => by rw [World.cell?_alloc_new]; simpa [Cell.l] using hj) hnc (Nat.le_trans hb3.size (one_box _ _ _).1.size) ?_; intro g5 cap5 w5 ho5 hn5; have HO5 := Lib.hid ho5; have HB5 := Lib.hid (app_below HBc.out hb3 HOc.out hn5 ((Below.refl _ _).alloc (Nat.le_refl _) _)); obtain ⟨m0, m1, m2, m3, m4, m5, m6, m7⟩ := (HD1.out.below HB5.out).get0; clear ho5 hn5)
        | (refine step_app_cell rfl (.tmp 15) (.tmp 17) rfl d rfl HOc.out rfl hbox hnc hb3.size ?_; intro g5 cap5 w5 ho5 hn5; have HO5 := Lib.hid ho5; have HB5 := Lib.hid (app_below HBc.out hb3 HOc.out hn5 (Below.refl _ _)); obtain ⟨m0, m1, m2, m3, m4, m5, m6, m7⟩ := (HD1.out.below HB5.out).get0; clear ho5 hn5)
        | (go_simp; go_wp2_with (first
          | (go_at_call 14; (with_reducible refine (hcopy.out _ hbd).mono ?_); rintro e w3 ⟨Ac, nc, cc, rfl, hoc, hb3⟩; have hnc : nc ≤ 1466015503700 := (by have := hoc.1; omega); have HOc := Lib.hid hoc; have HBc := Lib.hid hbd; obtain ⟨m0, m1, m2, m3, m4, m5, m6, m7⟩ := (HD1.out.below (HBc.out.trans (hb3.mono (Nat.le_refl _)))).get0; clear hoc)
          | (go_at_call 14; (refine (hcopy.out _ (below_box W1 d)).mono ?_); rintro e w3 ⟨Ac, nc, cc, rfl, hoc, hb3⟩; have hnc : nc ≤ 1466015503700 := (by have := hoc.1; omega); have hbox := box_at W1 d hb3; have HOc := Lib.hid hoc; have HBc := Lib.hid (below_box W1 d); obtain ⟨m0, m1, m2, m3, m4, m5, m6, m7⟩ := (HD1.out.below (HBc.out.trans (hb3.mono HBc.out.size))).get0; clear hoc)
          | (go_at_call 10; refine (longl_calls _ _ _ (xs ++ [d]) _ (HO5.out.rd Cell.l_len) (by omega)).mono ?_; rintro e w6 ⟨rfl, rfl⟩)
          | (go_at_call 12; refine (rright_calls d _ HDF.out).mono ?_; rintro e w7 ⟨rfl, hb7⟩; have HB5 := Lib.hid (HB5.out.trans (hb7.mono HB5.out.size))))))) | fail
      all_goals go_wp2
      all_goals go_meet
      all_goals first | exact ⟨HB5, .inl rfl⟩ | exact ⟨HB5, .inr ⟨rfl, Lib.hid ⟨h1, h2, h3⟩⟩⟩
  case rest =>
    clear hcases k0 k1 k2 k3 k4 k5 k6 k7
    obtain ⟨HB2, h⟩ := hcut
    have HB12 := Lib.hid (HB1.out.trans (HB2.out.mono HB1.out.size))
    rcases h with rfl | ⟨rfl, HG⟩
    · go_wp2
      go_ret
      exact ⟨rfl, HB12.out⟩
    have hn : n ≤ 59 := by
      have := long_few HG.out.1
      rw [List.length_append, List.length_singleton, ← HX.out.1.len] at this
      omega
    have HK : Hid (d.kind ≠ 1) := fun h => by have := HG.out.2.1; rw [h] at this; cases this
    have HGONE := Lib.hid (seen_gone (l := xs) (v := 8) (now := now) HG.out.2.2 HK.out)
    have HD2 := Lib.hid (HD1.out.below HB2.out)
    clear HD1 hcopy hbd hn0
    have hs := Lib.hid (seen_all a n ca xs 8 0 now wc (HX.out.1.below HB12.out) (by omega) HX.out.2.1 (tabs_below HT.out HB12.out) (.inl rfl))
    go_wp2_with fail
    refine hs.out.mono ?_
    clear hs
    rintro e W1' ⟨A3, n3, c3, rfl, ho3, hb3⟩
    obtain ⟨S1, hS1⟩ : ∃ S1, S1 = seenL 8 0 now xs := ⟨_, rfl⟩
    obtain ⟨S2, hS2⟩ : ∃ S2, S2 = seenL 8 0 now (xs ++ [d]) := ⟨_, rfl⟩
    rw [← hS1] at ho3
    have HS1 := Lib.hid ho3
    have HB3 := Lib.hid (HB12.out.trans (hb3.mono HB12.out.size))
    have HD1 := Lib.hid (HD2.out.below hb3)
    have hl1 : n3 ≤ 60 := by rw [ho3.1, hS1]; exact Nat.le_trans (seenL_len 8 0 now xs) (by rw [← HX.out.1.len]; omega)
    have hn0 : xs.length ≤ 1466015503700 := by have := HX.out.1.len; omega
    have hcopy : Hid (∀ W, Below W1'.heap.size W1' W → Calls Tryd.prog 14 #[.slice a n ca] W (OutC xs W)) := fun W hb => copy_all a n ca xs W ((HX.out.1.below HB3.out).below hb) HX.out.2.2.1 (by omega)
    have hseen : Hid (∀ A m c W, RdC W A m (xs ++ [d]) → Below W1'.heap.size W1' W → Calls Tryd.prog 16 #[.slice A m c, .int .i64 8, .int .i64 0, .int .i64 now] W (OutC S2 W)) := fun A m c W ho hb => by
      rw [hS2]
      refine seen_all A m c (xs ++ [d]) 8 0 now W ho ?_ ?_ (tabs_below HT.out (HB3.out.trans (hb.mono HB3.out.size))) (.inl rfl)
      · have h1 := ho.len
        rw [List.length_append, List.length_singleton, ← HX.out.1.len] at h1
        omega
      · intro x hx
        rcases List.mem_append.1 hx with hx | hx
        · exact HX.out.2.1 x hx
        · simp only [List.mem_cons, List.not_mem_nil, or_false] at hx
          subst hx
          exact HDF.out
    have hl2 : Hid (S2.length ≤ 60) := by
      have h1 := seenL_len 8 0 now (xs ++ [d])
      rw [List.length_append, List.length_singleton, ← HX.out.1.len, ← hS2] at h1
      unfold Hid
      omega
    rw [← hS1, ← hS2] at HGONE
    have hbd : Below W1'.heap.size W1' W1'.drew := below_drew1 W1'
    obtain ⟨k0, k1, k2, k3, k4, k5, k6, k7⟩ := HD1.out.get0
    clear ho3 hb3 hS1 hS2 HB12 HB1 HB2 HD2 HG
    go_upto_region 6 with fail
    go_cut [8] (fun x wx => ∃ (A : Option Addr) (m c : Nat), x = .slice A m c ∧ Hid (RdC wx A m S2) ∧ Hid (Below W1'.heap.size W1' wx))
    case first =>
      first | (go_region_law (first
        | (refine step_app_cell rfl (.tmp 34) (.tmp 36) rfl d rfl (HOc.out.below (one_box _ _ _).1) rfl (fun j u hj => by rw [World.cell?_alloc_new]; simpa [Cell.l] using hj) hnc (Nat.le_trans hb3.size (one_box _ _ _).1.size) ?_; intro g5 cap5 w5 ho5 hn5; have HO5 := Lib.hid ho5; have HB5 := Lib.hid (app_below HBc.out hb3 HOc.out hn5 ((Below.refl _ _).alloc (Nat.le_refl _) _)); obtain ⟨m0, m1, m2, m3, m4, m5, m6, m7⟩ := (HD1.out.below HB5.out).get0; clear ho5 hn5)
        | (refine step_app_cell rfl (.tmp 34) (.tmp 36) rfl d rfl HOc.out rfl hbox hnc hb3.size ?_; intro g5 cap5 w5 ho5 hn5; have HO5 := Lib.hid ho5; have HB5 := Lib.hid (app_below HBc.out hb3 HOc.out hn5 (Below.refl _ _)); obtain ⟨m0, m1, m2, m3, m4, m5, m6, m7⟩ := (HD1.out.below HB5.out).get0; clear ho5 hn5)
        | (go_simp; go_wp2_with (first
          | (go_at_call 14; (with_reducible refine (hcopy.out _ hbd).mono ?_); rintro e w3 ⟨Ac, nc, cc, rfl, hoc, hb3⟩; have hnc : nc ≤ 1466015503700 := (by have := hoc.1; omega); have HOc := Lib.hid hoc; have HBc := Lib.hid hbd; obtain ⟨m0, m1, m2, m3, m4, m5, m6, m7⟩ := (HD1.out.below (HBc.out.trans (hb3.mono (Nat.le_refl _)))).get0; clear hoc)
          | (go_at_call 14; (refine (hcopy.out _ (below_box W1' d)).mono ?_); rintro e w3 ⟨Ac, nc, cc, rfl, hoc, hb3⟩; have hnc : nc ≤ 1466015503700 := (by have := hoc.1; omega); have hbox := box_at W1' d hb3; have HOc := Lib.hid hoc; have HBc := Lib.hid (below_box W1' d); obtain ⟨m0, m1, m2, m3, m4, m5, m6, m7⟩ := (HD1.out.below (HBc.out.trans (hb3.mono HBc.out.size))).get0; clear hoc)
          | (go_at_call 16; refine (hseen.out _ _ _ _ (HO5.out.rd Cell.l_len) HB5.out).mono ?_; rintro e w8 ⟨A8, n8, c8, rfl, ho8, hb8⟩; have HO8 := Lib.hid ho8; have HB8 := Lib.hid (HB5.out.trans (hb8.mono HB5.out.size)); clear ho8 hb8))))) | fail
      all_goals go_wp2
      all_goals go_meet
      all_goals exact ⟨A8, n8, c8, rfl, HO8.out.rd Cell.l_len, HB8⟩
    case rest =>
      obtain ⟨A4, n4, c4, rfl, HS2, HB4⟩ := hcut
      have HR1 := Lib.hid ((HS1.out.below HB4.out).rd Cell.l_len)
      have HD4 := Lib.hid (HD1.out.below HB4.out)
      have HB5 := Lib.hid (HB3.out.trans (HB4.out.mono HB3.out.size))
      have hl4 : n4 ≤ 60 := by rw [HS2.out.len]; exact hl2.out
      clear k0 k1 k2 k3 k4 k5 k6 k7 hseen hcopy hbd HB3 HB4 HD1 HS1
      go_wp2_with fail
      go_loopw [9] (fun ii wr => ∃ i : Nat, ii = .int .i64 i ∧ i ≤ n4 ∧ Hid (Below wc.heap.size wc wr)) (fun i _ => n4 - (intOf i).toNat)
      case atStart => exact ⟨0, rfl, Nat.zero_le _, Below.refl _ _⟩
      case round =>
        obtain ⟨i, rfl, hi, HBR⟩ := hrel
        by_cases hlt : i < n4
        · obtain ⟨c, bb, off, hc, rfl, _, hc8⟩ := rd8 (HS2.out.below HBR.out) i hlt
          have hhit : hitL d c = false := HGONE.out.1 c (List.mem_of_getElem? hc)
          obtain ⟨k0, k1, k2, k3, k4, k5, k6, k7⟩ := hc8.later
          obtain ⟨l0, l1, l2, l3, l4, l5, l6, l7⟩ := (HD4.out.below HBR.out).later
          have i0 : (0 : Int) ≤ (i : Int) := by omega
          have i1 : (i : Int) < (n4 : Int) := by omega
          have hcall : Hid (∀ X, Calls Tryd.prog 18 #[d.v, c.v] (wr.later X) fun e w'' => e = .returned (.bool false) ∧ ∃ Y, w'' = wr.later Y) := fun X => by
            have := calls_later (hit_calls d c (wr.later X))
            rw [hhit] at this
            exact this
          clear hc hc8 hhit
          go_wp2_with fail
          refine wp_region_later (by kernel_rfl) (by kernel_rfl) ?_
          repeat (go_big_quiet_step ((go_at_call 18; exact hcall.out _)))
          refine wpQuiet_nil ?_
          intro W5 hW5
          have HB6 : Hid (Below wc.heap.size wc W5) := by
            obtain ⟨X, rfl⟩ := hW5
            exact HBR.out.trans ((later_below wr X).mono HBR.out.size)
          clear hW5 k0 k1 k2 k3 k4 k5 k6 k7 l0 l1 l2 l3 l4 l5 l6 l7 hcall HBR
          go_wp2
          go_roundw
          case rel => exact ⟨i + 1, by go_num, by omega, HB6.out⟩
          case measure => simp [intOf]; omega
        · obtain rfl : i = n4 := by omega
          have hne : ∀ (F : List Cell) (c : Cell) (k : Nat), (c :: F).Sublist (S2.drop k) → k < i := fun F c k h => by
            have h1 := h.length_le
            have h2 := HS2.out.len
            rw [List.length_drop, List.length_cons] at h1
            omega
          have HNE := Lib.hid hne
          have HST : Hid (Below wc.heap.size wc wr) := HBR
          clear hne HBR
          obtain ⟨wo, hwo⟩ : ∃ wo : World, wo = wr := ⟨_, rfl⟩
          clear hwo
          go_wp2_with fail
          go_loopw [10, 11] (fun kk ii wr => ∃ k j : Nat, kk = .int .i64 k ∧ ii = .int .i64 j ∧ j ≤ n3 ∧ k ≤ i ∧ Hid (((S1.drop j).filter fun c => !hitL d c).Sublist (S2.drop k)) ∧ Hid (Below wc.heap.size wc wr)) (fun _ j _ => n3 - (intOf j).toNat)
          case atStart => exact ⟨0, 0, rfl, rfl, Nat.zero_le _, Nat.zero_le _, HGONE.out.2, HST.out⟩
          case round =>
            clear HST
            obtain ⟨k, j, rfl, rfl, hj, hk, HSUB, HBR⟩ := hrel
            by_cases hlt : j < n3
            · obtain ⟨c, bb, off, hc, rfl, _, hc8⟩ := rd8 (HR1.out.below HBR.out) j hlt
              have hdr : S1.drop j = c :: S1.drop (j + 1) := by
                have h3 := get_lt hc
                rw [List.drop_eq_getElem_cons h3]
                rw [List.getElem?_eq_getElem h3] at hc
                rw [Option.some.inj hc]
              have HDR := Lib.hid hdr
              have HC8 := Lib.hid hc8
              obtain ⟨k0, k1, k2, k3, k4, k5, k6, k7⟩ := hc8.later
              obtain ⟨l0, l1, l2, l3, l4, l5, l6, l7⟩ := (HD4.out.below HBR.out).later
              have i0 : (0 : Int) ≤ (j : Int) := by omega
              have i1 : (j : Int) < (n3 : Int) := by omega
              have hcall : Hid (∀ X, Calls Tryd.prog 18 #[d.v, c.v] (wr.later X) fun e w'' => e = .returned (.bool (hitL d c)) ∧ ∃ Y, w'' = wr.later Y) := fun X => calls_later (hit_calls d c (wr.later X))
              clear hc hc8 hdr
              go_wp2_with fail
              refine wp_region_later (by kernel_rfl) (by kernel_rfl) ?_
              repeat (go_big_quiet_step ((go_at_call 18; exact hcall.out _)))
              refine wpQuiet_nil ?_
              intro W5 hW5
              have hb5 : Below wr.heap.size wr W5 := by
                obtain ⟨X, rfl⟩ := hW5
                exact later_below wr X
              have HB6 := Lib.hid (HBR.out.trans (hb5.mono HBR.out.size))
              have HC5 := Lib.hid (HC8.out.below hb5)
              clear hW5 hb5 k0 k1 k2 k3 k4 k5 k6 k7 l0 l1 l2 l3 l4 l5 l6 l7 hcall HBR HC8
              cases hh : hitL d c with
              | true =>
                have HSUB2 : Hid (((S1.drop (j + 1)).filter fun c => !hitL d c).Sublist (S2.drop k)) := by
                  have h1 := HSUB.out
                  rw [HDR.out, List.filter_cons, hh, if_neg (by decide)] at h1
                  exact h1
                clear hh
                go_wp2
                go_roundw
                case rel => exact ⟨k, j + 1, rfl, by go_num, by omega, hk, HSUB2.out, HB6.out⟩
                case measure => simp [intOf]; omega
              | false =>
                have HSUB2 : Hid ((c :: ((S1.drop (j + 1)).filter fun c => !hitL d c)).Sublist (S2.drop k)) := by
                  have h1 := HSUB.out
                  rw [HDR.out, List.filter_cons, hh, if_pos (by decide)] at h1
                  exact h1
                clear hh HSUB
                go_wp2_with fail
                go_loopw [10] (fun kk wr => ∃ k q : Nat, kk = .int .i64 k ∧ k ≤ i ∧ wr = W5.drewN q ∧ Hid ((c :: ((S1.drop (j + 1)).filter fun c => !hitL d c)).Sublist (S2.drop k))) (fun k _ => i - (intOf k).toNat)
                case atStart => exact ⟨k, 0, rfl, hk, rfl, HSUB2⟩
                case round =>
                  clear HSUB2 hk
                  obtain ⟨k, q, rfl, hk, rfl, HSUB⟩ := hrel
                  have hkl : k < i := HNE.out _ _ _ HSUB.out
                  obtain ⟨x, b4, off4, hx, rfl, _, hx8⟩ := rd8 (HS2.out.below HB6.out) k hkl
                  obtain ⟨k0, k1, k2, k3, k4, k5, k6, k7⟩ := hx8.get
                  obtain ⟨l0, l1, l2, l3, l4, l5, l6, l7⟩ := HC5.out.get
                  have HXX := Lib.hid hx
                  clear hx hx8
                  cases heq : x.beq c with
                  | true =>
                    obtain rfl := (Cell.beq_iff x c).1 heq
                    have HSUB3 : Hid (((S1.drop (j + 1)).filter fun c => !hitL d c).Sublist (S2.drop k)) := (List.sublist_cons_self _ _).trans HSUB.out
                    have HB7 : Hid (∀ q, Below wc.heap.size wc (W5.drewN q)) := fun q => HB6.out.trans ((drewN_below W5 q).mono HB6.out.size)
                    unfold Cell.beq at heq
                    go_wp2
                    go_quiet (fail)
                    go_wp2
                    go_roundw
                    case rel => exact ⟨k, j + 1, rfl, by go_num, by omega, by omega, HSUB3.out, HB7.out _⟩
                    case measure => simp [intOf]; omega
                  | false =>
                    have HSUB3 : Hid ((c :: ((S1.drop (j + 1)).filter fun c => !hitL d c)).Sublist (S2.drop (k + 1))) := by
                      have h1 := HSUB.out
                      have hl := get_lt HXX.out
                      have e1 : S2.drop k = x :: S2.drop (k + 1) := by
                        rw [List.drop_eq_getElem_cons hl]
                        have := HXX.out
                        rw [List.getElem?_eq_getElem hl] at this
                        rw [Option.some.inj this]
                      rw [e1] at h1
                      rcases List.sublist_cons_iff.1 h1 with h | ⟨r, e, h⟩
                      · exact h
                      · injection e with e _
                        rw [e, (Cell.beq_iff x x).2 rfl] at heq
                        cases heq
                    unfold Cell.beq at heq
                    go_wp2
                    go_quiet (fail)
                    go_wp2
                    go_roundw
                    case rel => exact ⟨k + 1, q + nq, by go_num, by omega, rfl, HSUB3.out⟩
                    case measure => simp [intOf]; omega
            · have HB7 := Lib.hid (HB5.out.trans (HBR.out.mono HB5.out.size))
              go_wp2
              go_ret
              exact ⟨rfl, HB7.out⟩
end Go.Proofs.YtndmlldaebdnmaaDoor
