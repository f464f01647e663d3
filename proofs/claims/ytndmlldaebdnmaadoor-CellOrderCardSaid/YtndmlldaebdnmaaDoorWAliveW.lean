/-
  The law package's alive (cell), walked.
-/
import Derived.Test.YtndmlldaebdnmaaDoorWAlive
namespace Go.Proofs.YtndmlldaebdnmaaDoor
open Go.RowKit

attribute [local go_sem high] eqCell
set_option maxHeartbeats 6000000 in
set_option maxRecDepth 100000 in
theorem alive_calls (w : World) (hT : Lib.Utf8Tabs 0 1 w) : Calls Tryd.prog 9 #[] w fun e w' => e = .returned (.bool true) ∧ Below w.heap.size w w' := by
  have HT := Lib.hid hT
  clear hT
  obtain ⟨hB0, cb0⟩ := one_box w alG.cells 31
  obtain ⟨W0, hW0⟩ : ∃ W0, W0 = w.alloc (.cells alG.cells 31) := ⟨_, rfl⟩
  rw [← hW0] at hB0 cb0
  have hC0 : At8 W0 w.heap.size 0 alG := fun j v hv => by rw [Nat.zero_add]; exact cb0 j v (by simpa [Cell.l] using hv)
  obtain ⟨k0, k1, k2, k3, k4, k5, k6, k7⟩ := hC0.later
  have HW0 := Lib.hid hW0
  have HB0 := Lib.hid hB0
  have hput : Hid (∀ n X, Calls Tryd.prog 19 #[.int .i64 n] (W0.later X) fun e w'' => e = .returned (alP n).v ∧ ∃ Y, w'' = W0.later Y) := fun n X => calls_later (put_calls n _)
  clear hW0 hB0 cb0 hC0
  go_enter Tryd.func9, Tryd.ntmps9
  go_wp2_with fail
  have e0 : w.alloc (.cells #[.string ⟨#[114]⟩, .string ⟨#[102]⟩, .string ⟨#[113]⟩, .int .i64 3, .int .i64 3, .int .i64 0, .int .i64 0, .string ⟨#[]⟩] 31) = W0 := HW0.out.symm
  rw [e0]
  clear e0
  refine wp_region_later_tail 4 (by kernel_rfl) (by kernel_rfl) ?_
  simp only [List.take_succ_cons, List.take_zero, List.drop_succ_cons, List.drop_zero]
  repeat (go_big_quiet_step ((go_at_call 19; exact hput.out _ _)))
  refine wpQuiet_nil ?_
  intro W1 hW1
  have hB1 : Below W0.heap.size W0 W1 := by
    obtain ⟨X, rfl⟩ := hW1
    exact later_below W0 X
  have HB1 := Lib.hid (HB0.out.trans (hB1.mono HB0.out.size))
  clear hW1 hB1 k0 k1 k2 k3 k4 k5 k6 k7 hput HW0 HB0
  have hblk : (W1.alloc (.cells ((alP 3).cells ++ (alP 4).cells ++ alG.cells ++ (alP 5).cells) 31)).heap[W1.heap.size]? = some (.cells ((alP 3).cells ++ (alP 4).cells ++ alG.cells ++ (alP 5).cells) 31) := heap_alloc_new _ _
  have hRD : RdC (W1.alloc (.cells ((alP 3).cells ++ (alP 4).cells ++ alG.cells ++ (alP 5).cells) 31)) (some ⟨W1.heap.size, 0, none⟩) 4 alL := rd_block (f := (0, 0)) (T := 31) hblk alL rfl Cell.l_len
  have HRD := Lib.hid hRD
  have HB2 := Lib.hid (HB1.out.trans (((Below.refl _ W1).alloc (Nat.le_refl _) (.cells ((alP 3).cells ++ (alP 4).cells ++ alG.cells ++ (alP 5).cells) 31)).mono HB1.out.size))
  clear hblk hRD HB1
  go_wp2_with fail
  refine (seen_all _ 4 4 alL 1 0 9 _ HRD.out (by omega) al_fits (tabs_below HT.out HB2.out) (.inl rfl)).mono ?_
  rintro e w3 ⟨A3, n3, c3, rfl, ho3, hb3⟩
  rw [al_seen1] at ho3
  obtain rfl : n3 = 1 := ho3.1
  obtain ⟨g3, rfl, _, _⟩ := own_lt ho3 (by omega)
  have HRD3 := Lib.hid (HRD.out.below hb3)
  have HB3 := Lib.hid (HB2.out.trans (hb3.mono HB2.out.size))
  have HO3 := Lib.hid ho3
  clear ho3 hb3 HRD HB2
  go_wp2_with fail
  refine (value_calls _ 4 4 alL ⟨#[102]⟩ ⟨#[113]⟩ 1 0 9 w3 HRD3.out (by omega) al_fits (tabs_below HT.out HB3.out) (.inl rfl) (alP 5) (alP 5) al_seen4 (by rw [al_sort]; rfl) (by rw [str_dec]; exact decide_eq_true rfl) (by rw [str_dec]; exact decide_eq_true rfl) (by rw [str_dec]; exact decide_eq_true rfl)).mono ?_
  rintro e w4 ⟨rfl, hb4⟩
  have HRD4 := Lib.hid (HRD3.out.below hb4)
  have HB4 := Lib.hid (HB3.out.trans (hb4.mono HB3.out.size))
  have HO4 := Lib.hid (HO3.out.below hb4)
  clear hb4 HRD3 HB3 HO3
  go_wp2_with fail
  obtain ⟨hb5, cb5⟩ := one_box w4 #[.int .i64 (alP 5).vk, .int .i64 (alP 5).vn, .string (alP 5).vs] 29
  obtain ⟨W5, hW5⟩ : ∃ W5, W5 = w4.alloc (.cells #[.int .i64 (alP 5).vk, .int .i64 (alP 5).vn, .string (alP 5).vs] 29) := ⟨_, rfl⟩
  rw [← hW5] at hb5 cb5
  have HRD5 := Lib.hid (HRD4.out.below hb5)
  have HB5 := Lib.hid (HB4.out.trans (hb5.mono HB4.out.size))
  obtain ⟨c', hc', hc8⟩ := rd8z ((HO4.out.below hb5).rd Cell.l_len) 0 (by omega)
  obtain rfl : alP 5 = c' := by simpa using hc'
  simp only [Nat.zero_mul] at hc8
  have HC8 := Lib.hid hc8
  obtain ⟨k0, k1, k2, k3, k4, k5, k6, k7⟩ := hc8.get
  have v1 : W5.cell? ⟨w4.heap.size, 1, none⟩ = some (.int .i64 5) := cb5 1 _ rfl
  rw [← hW5]
  clear hc' hc8 cb5 hb5 HRD4 HB4 HO4 hW5
  have hsA : Hid (∀ W, Below W5.heap.size W5 W → Calls Tryd.prog 16 #[.slice (some ⟨W1.heap.size, 0, none⟩) 4 4, .int .i64 8, .int .i64 0, .int .i64 9] W (OutC (seenL 8 0 9 alL) W)) := fun W hb => seen_all _ 4 4 alL 8 0 9 W (HRD5.out.below hb) (by omega) al_fits (tabs_below HT.out (HB5.out.trans (hb.mono HB5.out.size))) (.inl rfl)
  have hsB : Hid (∀ W, Below W5.heap.size W5 W → Calls Tryd.prog 16 #[.slice (some ⟨W1.heap.size, 0, none⟩) 4 4, .int .i64 8, .int .i64 3, .int .i64 8] W (OutC (seenL 8 3 8 alL) W)) := fun W hb => seen_all _ 4 4 alL 8 3 8 W (HRD5.out.below hb) (by omega) al_fits (tabs_below HT.out (HB5.out.trans (hb.mono HB5.out.size))) (.inr ⟨by decide, by decide⟩)
  go_region_law (go_simp; go_wp2_with (first
    | (go_at_call 19; refine (put_calls 5 _).mono ?_; rintro e w6 ⟨rfl, hb6⟩; have hb6 := (below_drew1 W5).trans (hb6.mono (Nat.le_refl _)); have v6 := below_cell hb6 (Nat.le_refl _) v1; obtain ⟨m0, m1, m2, m3, m4, m5, m6, m7⟩ := (HC8.out.below hb6).get)
    | (go_at_call 11; refine (sort_calls _ 4 4 alL _ (HRD5.out.below hb6) (by omega) al_fits (tabs_below HT.out (HB5.out.trans (hb6.mono HB5.out.size)))).mono ?_; rintro e w7 ⟨A7, n7, c7, rfl, ho7, hb7⟩; rw [al_sort] at ho7; obtain rfl : n7 = 4 := ho7.1; have hb7 := hb6.trans (hb7.mono hb6.size); clear ho7)
    | (go_at_call 16; (with_reducible refine (hsA.out _ hb7).mono ?_); rintro e w8 ⟨A8, n8, c8, rfl, ho8, hb8⟩; have e8 := ho8.1; rw [al_seen2] at e8; subst e8; have hb8 := hb7.trans (hb8.mono hb7.size); clear ho8)
    | (go_at_call 16; (with_reducible refine (hsB.out _ hb8).mono ?_); rintro e w9 ⟨A9, n9, c9, rfl, ho9, hb9⟩; have e9 := ho9.1; rw [al_seen3] at e9; subst e9; have hb9 := hb8.trans (hb9.mono hb8.size); clear ho9)
    | (go_at_call 21; refine (rows_calls _ 4 alL _ (HRD5.out.below hb9) al_rows).mono ?_; rintro e w10 ⟨⟨A10, c10, rfl⟩, hb10⟩; have hb10 := hb9.trans (hb10.mono hb9.size))
    | (go_at_call 17; refine (needed_calls _ 4 4 alL 8 0 9 _ (HRD5.out.below hb10) (by omega) al_fits (tabs_below HT.out (HB5.out.trans (hb10.mono HB5.out.size))) (.inl rfl)).mono ?_; rintro e w11 ⟨A11, n11, c11, rfl, ho11, hb11⟩; have e11 := ho11.1; rw [al_seen2] at e11; subst e11; have hb11 := hb10.trans (hb11.mono hb10.size); clear ho11)))
  all_goals go_wp2
  all_goals go_ret
  all_goals exact ⟨rfl, HB5.out.trans (hb11.mono HB5.out.size)⟩
end Go.Proofs.YtndmlldaebdnmaaDoor
