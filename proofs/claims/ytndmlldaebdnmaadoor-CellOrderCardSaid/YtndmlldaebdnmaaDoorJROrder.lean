/-
  Contract of joistref03.Order: it is the program's order of cells.
-/
import Derived.Test.YtndmlldaebdnmaaDoorJTexts
namespace Go.Proofs.YtndmlldaebdnmaaDoor
open Go.RowKit

theorem rcmp_calls (a b : Int) (w : World) : Calls Tryd.prog 29 #[.int .i64 a, .int .i64 b] w fun e w' => e = .returned (.int .i64 (cmpI a b)) ∧ w' = w := by
  by_cases h1 : a < b
  · go_enter Tryd.func29, Tryd.ntmps29
    go_wp2
    go_ret
    exact ⟨ret_int (by rw [cmpI, if_pos (by omega)]), rfl⟩
  · by_cases h2 : b < a
    · go_enter Tryd.func29, Tryd.ntmps29
      go_wp2
      go_ret
      exact ⟨ret_int (by rw [cmpI, if_neg (by omega), if_pos (by omega)]), rfl⟩
    · go_enter Tryd.func29, Tryd.ntmps29
      go_wp2
      go_ret
      exact ⟨ret_int (by rw [cmpI, if_neg (by omega), if_neg (by omega)]), rfl⟩

/-- The six numbers of which the first that isn't 0 tells. -/
def ordL (a b : Cell) (x y : Int) : List Int := [cmpS a.row b.row, cmpS a.fam b.fam, cmpI x y, cmpS a.qual b.qual, cmpI b.time a.time, cmpI b.kind a.kind]

theorem texts_later (a b : ByteArray) (w X : World) (ha : a.size ≤ 140737488351232) (hb : b.size ≤ 140737488351232) : Calls Tryd.prog 28 #[.string a, .string b] (w.later X) fun e w' => e = .returned (.int .i64 (cmpS a b)) ∧ ∃ Y, w' = w.later Y :=
  calls_later_drew (texts_calls a b _ ha hb)

theorem six_cells (W : World) (x0 x1 x2 x3 x4 x5 : Int) (t : TypeId) : ∀ k, k < 6 → (W.alloc (.cells #[.int .i64 x0, .int .i64 x1, .int .i64 x2, .int .i64 x3, .int .i64 x4, .int .i64 x5] t)).cell? ⟨W.heap.size, k, none⟩ = some (.int .i64 ([x0, x1, x2, x3, x4, x5].getD k 0)) := by
  intro k hk
  rw [World.cell?_alloc_new]
  match k, hk with
  | 0, _ => rfl
  | 1, _ => rfl
  | 2, _ => rfl
  | 3, _ => rfl
  | 4, _ => rfl
  | 5, _ => rfl
  | k + 6, h => exact absurd h (by omega)
theorem orI_drop' (l : List Int) (k : Nat) (h : k < l.length) : orI (l.drop k) = if l.getD k 0 = 0 then orI (l.drop (k + 1)) else l.getD k 0 := by
  rw [orI_drop l k h, List.getD_eq_getElem?_getD, List.getElem?_eq_getElem h]; rfl

structure Cell.small (c : Cell) : Prop where
  row : c.row.size ≤ 140737488351232
  fam : c.fam.size ≤ 140737488351232
  qual : c.qual.size ≤ 140737488351232

set_option maxHeartbeats 2000000 in
theorem rorder00 (ra rb fa fb qa qb : ByteArray) (ta tb ka kb va vb na nb : Int) (sa sb : ByteArray) (w : World) (hka : (ka == 4) = true) (hkb : (kb == 4) = true) (h1 : ra.size ≤ 140737488351232) (h2 : rb.size ≤ 140737488351232) (h3 : fa.size ≤ 140737488351232) (h4 : fb.size ≤ 140737488351232) (h5 : qa.size ≤ 140737488351232) (h6 : qb.size ≤ 140737488351232) :
    Calls Tryd.prog 13 #[.agg #[.string ra, .string fa, .string qa, .int .i64 ta, .int .i64 ka, .int .i64 va, .int .i64 na, .string sa], .agg #[.string rb, .string fb, .string qb, .int .i64 tb, .int .i64 kb, .int .i64 vb, .int .i64 nb, .string sb]] w fun e w' => e = .returned (.int .i64 (orI (ordL ⟨ra, fa, qa, ta, ka, va, na, sa⟩ ⟨rb, fb, qb, tb, kb, vb, nb, sb⟩ 0 0))) ∧ Below w.heap.size w w' := by
  obtain rfl : ka = 4 := by simpa using hka
  obtain rfl : kb = 4 := by simpa using hkb
  go_enter Tryd.func13, Tryd.ntmps13
  go_wp2
  obtain ⟨hB, ca, cb⟩ := two_boxes w #[.string ra, .string fa, .string qa, .int .i64 ta, .int .i64 4, .int .i64 va, .int .i64 na, .string sa] #[.string rb, .string fb, .string qb, .int .i64 tb, .int .i64 4, .int .i64 vb, .int .i64 nb, .string sb] 31 31
  generalize hW : (w.alloc (.cells #[.string ra, .string fa, .string qa, .int .i64 ta, .int .i64 4, .int .i64 va, .int .i64 na, .string sa] 31)).alloc (.cells #[.string rb, .string fb, .string qb, .int .i64 tb, .int .i64 4, .int .i64 vb, .int .i64 nb, .string sb] 31) = W at *
  clear hW
  have a0 := later_cell (ca 0 _ rfl)
  have a1 := later_cell (ca 1 _ rfl)
  have a2 := later_cell (ca 2 _ rfl)
  have a3 := later_cell (ca 3 _ rfl)
  have a4 := later_cell (ca 4 _ rfl)
  have b0 := later_cell (cb 0 _ rfl)
  have b1 := later_cell (cb 1 _ rfl)
  have b2 := later_cell (cb 2 _ rfl)
  have b3 := later_cell (cb 3 _ rfl)
  have b4 := later_cell (cb 4 _ rfl)
  clear ca cb
  refine wp_region_later_tail 28 (by kernel_rfl) (by kernel_rfl) ?_
  simp only [List.take_succ_cons, List.take_zero, List.drop_succ_cons, List.drop_zero]
  repeat (go_big_quiet_step ((first
    | (go_at_call 28; exact texts_later _ _ _ _ (by assumption) (by assumption))
    | (go_at_call 29; exact calls_later_same (rcmp_calls _ _ _)))))
  refine wpQuiet_nil ?_
  intro W1 hW1
  have hB1 : Below w.heap.size w W1 := by
    obtain ⟨X, rfl⟩ := hW1
    exact hB.trans ((later_below W X).mono hB.size)
  clear hW1 a0 a1 a2 a3 a4 b0 b1 b2 b3 b4 hB
  go_wp2
  have hc0 := six_cells W1 (cmpS ra rb) (cmpS fa fb) (cmpI 0 0) (cmpS qa qb) (cmpI tb ta) (cmpI 4 4) 3
  have hB2 : Below w.heap.size w (W1.alloc (.cells #[.int .i64 (cmpS ra rb), .int .i64 (cmpS fa fb), .int .i64 (cmpI 0 0), .int .i64 (cmpS qa qb), .int .i64 (cmpI tb ta), .int .i64 (cmpI 4 4)] 3)) := hB1.alloc (by have := hB1.size; omega) _
  generalize W1.alloc (.cells #[.int .i64 (cmpS ra rb), .int .i64 (cmpS fa fb), .int .i64 (cmpI 0 0), .int .i64 (cmpS qa qb), .int .i64 (cmpI tb ta), .int .i64 (cmpI 4 4)] 3) = W2 at *
  clear hB1
  generalize W1.heap.size = bl at *
  obtain ⟨l, hl⟩ : ∃ l, l = ordL ⟨ra, fa, qa, ta, 4, va, na, sa⟩ ⟨rb, fb, qb, tb, 4, vb, nb, sb⟩ 0 0 := ⟨_, rfl⟩
  have hc : ∀ k, k < 6 → W2.cell? ⟨bl, k, none⟩ = some (.int .i64 (l.getD k 0)) := fun k hk => by rw [hl]; exact hc0 k hk
  clear hc0
  have hL : Hid (l.length = 6) := by rw [hl]; rfl
  have HL := Lib.hid hl
  clear hl
  go_loop [8] (fun i => ∃ k : Nat, k ≤ 6 ∧ i = .int .i64 k ∧ orI (l.drop k) = orI l) (fun i => 6 - (intOf i).toNat)
  case atStart => exact ⟨0, Nat.zero_le _, rfl, rfl⟩
  case round =>
    obtain ⟨k, hk, rfl, hor⟩ := hrel
    have Hor := Lib.hid hor
    clear hor
    by_cases hlt : k < 6
    · have hck := hc k hlt
      have hd := Lib.hid (orI_drop' l k (by rw [hL.out]; exact hlt))
      clear hc
      generalize l.getD k 0 = x at *
      by_cases h0 : x = 0
      · subst h0
        go_wp2
        go_round
        case rel => exact ⟨k + 1, by omega, by go_num, by rw [← Hor.out, hd.out, if_pos rfl]⟩
        case measure => simp [intOf]; omega
      · have h1 : (x != 0) = true := by simp [h0]
        go_wp2
        go_ret
        exact ⟨ret_int (by rw [← HL.out, ← Hor.out, hd.out, if_neg h0]), hB2⟩
    · clear hc
      go_wp2
      go_ret
      exact ⟨ret_int (by rw [← HL.out, ← Hor.out, List.drop_eq_nil_of_le (by rw [hL.out]; omega)]; rfl), hB2⟩

set_option maxHeartbeats 2000000 in
theorem rorder01 (ra rb fa fb qa qb : ByteArray) (ta tb ka kb va vb na nb : Int) (sa sb : ByteArray) (w : World) (hka : (ka == 4) = true) (hkb : (kb == 4) = false) (h1 : ra.size ≤ 140737488351232) (h2 : rb.size ≤ 140737488351232) (h3 : fa.size ≤ 140737488351232) (h4 : fb.size ≤ 140737488351232) (h5 : qa.size ≤ 140737488351232) (h6 : qb.size ≤ 140737488351232) :
    Calls Tryd.prog 13 #[.agg #[.string ra, .string fa, .string qa, .int .i64 ta, .int .i64 ka, .int .i64 va, .int .i64 na, .string sa], .agg #[.string rb, .string fb, .string qb, .int .i64 tb, .int .i64 kb, .int .i64 vb, .int .i64 nb, .string sb]] w fun e w' => e = .returned (.int .i64 (orI (ordL ⟨ra, fa, qa, ta, ka, va, na, sa⟩ ⟨rb, fb, qb, tb, kb, vb, nb, sb⟩ 0 1))) ∧ Below w.heap.size w w' := by
  obtain rfl : ka = 4 := by simpa using hka
  go_enter Tryd.func13, Tryd.ntmps13
  go_wp2
  obtain ⟨hB, ca, cb⟩ := two_boxes w #[.string ra, .string fa, .string qa, .int .i64 ta, .int .i64 4, .int .i64 va, .int .i64 na, .string sa] #[.string rb, .string fb, .string qb, .int .i64 tb, .int .i64 kb, .int .i64 vb, .int .i64 nb, .string sb] 31 31
  generalize hW : (w.alloc (.cells #[.string ra, .string fa, .string qa, .int .i64 ta, .int .i64 4, .int .i64 va, .int .i64 na, .string sa] 31)).alloc (.cells #[.string rb, .string fb, .string qb, .int .i64 tb, .int .i64 kb, .int .i64 vb, .int .i64 nb, .string sb] 31) = W at *
  clear hW
  have a0 := later_cell (ca 0 _ rfl)
  have a1 := later_cell (ca 1 _ rfl)
  have a2 := later_cell (ca 2 _ rfl)
  have a3 := later_cell (ca 3 _ rfl)
  have a4 := later_cell (ca 4 _ rfl)
  have b0 := later_cell (cb 0 _ rfl)
  have b1 := later_cell (cb 1 _ rfl)
  have b2 := later_cell (cb 2 _ rfl)
  have b3 := later_cell (cb 3 _ rfl)
  have b4 := later_cell (cb 4 _ rfl)
  clear ca cb
  refine wp_region_later_tail 28 (by kernel_rfl) (by kernel_rfl) ?_
  simp only [List.take_succ_cons, List.take_zero, List.drop_succ_cons, List.drop_zero]
  repeat (go_big_quiet_step ((first
    | (go_at_call 28; exact texts_later _ _ _ _ (by assumption) (by assumption))
    | (go_at_call 29; exact calls_later_same (rcmp_calls _ _ _)))))
  refine wpQuiet_nil ?_
  intro W1 hW1
  have hB1 : Below w.heap.size w W1 := by
    obtain ⟨X, rfl⟩ := hW1
    exact hB.trans ((later_below W X).mono hB.size)
  clear hW1 a0 a1 a2 a3 a4 b0 b1 b2 b3 b4 hB
  go_wp2
  have hc0 := six_cells W1 (cmpS ra rb) (cmpS fa fb) (cmpI 0 1) (cmpS qa qb) (cmpI tb ta) (cmpI kb 4) 3
  have hB2 : Below w.heap.size w (W1.alloc (.cells #[.int .i64 (cmpS ra rb), .int .i64 (cmpS fa fb), .int .i64 (cmpI 0 1), .int .i64 (cmpS qa qb), .int .i64 (cmpI tb ta), .int .i64 (cmpI kb 4)] 3)) := hB1.alloc (by have := hB1.size; omega) _
  generalize W1.alloc (.cells #[.int .i64 (cmpS ra rb), .int .i64 (cmpS fa fb), .int .i64 (cmpI 0 1), .int .i64 (cmpS qa qb), .int .i64 (cmpI tb ta), .int .i64 (cmpI kb 4)] 3) = W2 at *
  clear hB1
  generalize W1.heap.size = bl at *
  obtain ⟨l, hl⟩ : ∃ l, l = ordL ⟨ra, fa, qa, ta, 4, va, na, sa⟩ ⟨rb, fb, qb, tb, kb, vb, nb, sb⟩ 0 1 := ⟨_, rfl⟩
  have hc : ∀ k, k < 6 → W2.cell? ⟨bl, k, none⟩ = some (.int .i64 (l.getD k 0)) := fun k hk => by rw [hl]; exact hc0 k hk
  clear hc0
  have hL : Hid (l.length = 6) := by rw [hl]; rfl
  have HL := Lib.hid hl
  clear hl
  go_loop [8] (fun i => ∃ k : Nat, k ≤ 6 ∧ i = .int .i64 k ∧ orI (l.drop k) = orI l) (fun i => 6 - (intOf i).toNat)
  case atStart => exact ⟨0, Nat.zero_le _, rfl, rfl⟩
  case round =>
    obtain ⟨k, hk, rfl, hor⟩ := hrel
    have Hor := Lib.hid hor
    clear hor
    by_cases hlt : k < 6
    · have hck := hc k hlt
      have hd := Lib.hid (orI_drop' l k (by rw [hL.out]; exact hlt))
      clear hc
      generalize l.getD k 0 = x at *
      by_cases h0 : x = 0
      · subst h0
        go_wp2
        go_round
        case rel => exact ⟨k + 1, by omega, by go_num, by rw [← Hor.out, hd.out, if_pos rfl]⟩
        case measure => simp [intOf]; omega
      · have h1 : (x != 0) = true := by simp [h0]
        go_wp2
        go_ret
        exact ⟨ret_int (by rw [← HL.out, ← Hor.out, hd.out, if_neg h0]), hB2⟩
    · clear hc
      go_wp2
      go_ret
      exact ⟨ret_int (by rw [← HL.out, ← Hor.out, List.drop_eq_nil_of_le (by rw [hL.out]; omega)]; rfl), hB2⟩

set_option maxHeartbeats 2000000 in
theorem rorder10 (ra rb fa fb qa qb : ByteArray) (ta tb ka kb va vb na nb : Int) (sa sb : ByteArray) (w : World) (hka : (ka == 4) = false) (hkb : (kb == 4) = true) (h1 : ra.size ≤ 140737488351232) (h2 : rb.size ≤ 140737488351232) (h3 : fa.size ≤ 140737488351232) (h4 : fb.size ≤ 140737488351232) (h5 : qa.size ≤ 140737488351232) (h6 : qb.size ≤ 140737488351232) :
    Calls Tryd.prog 13 #[.agg #[.string ra, .string fa, .string qa, .int .i64 ta, .int .i64 ka, .int .i64 va, .int .i64 na, .string sa], .agg #[.string rb, .string fb, .string qb, .int .i64 tb, .int .i64 kb, .int .i64 vb, .int .i64 nb, .string sb]] w fun e w' => e = .returned (.int .i64 (orI (ordL ⟨ra, fa, qa, ta, ka, va, na, sa⟩ ⟨rb, fb, qb, tb, kb, vb, nb, sb⟩ 1 0))) ∧ Below w.heap.size w w' := by
  obtain rfl : kb = 4 := by simpa using hkb
  go_enter Tryd.func13, Tryd.ntmps13
  go_wp2
  obtain ⟨hB, ca, cb⟩ := two_boxes w #[.string ra, .string fa, .string qa, .int .i64 ta, .int .i64 ka, .int .i64 va, .int .i64 na, .string sa] #[.string rb, .string fb, .string qb, .int .i64 tb, .int .i64 4, .int .i64 vb, .int .i64 nb, .string sb] 31 31
  generalize hW : (w.alloc (.cells #[.string ra, .string fa, .string qa, .int .i64 ta, .int .i64 ka, .int .i64 va, .int .i64 na, .string sa] 31)).alloc (.cells #[.string rb, .string fb, .string qb, .int .i64 tb, .int .i64 4, .int .i64 vb, .int .i64 nb, .string sb] 31) = W at *
  clear hW
  have a0 := later_cell (ca 0 _ rfl)
  have a1 := later_cell (ca 1 _ rfl)
  have a2 := later_cell (ca 2 _ rfl)
  have a3 := later_cell (ca 3 _ rfl)
  have a4 := later_cell (ca 4 _ rfl)
  have b0 := later_cell (cb 0 _ rfl)
  have b1 := later_cell (cb 1 _ rfl)
  have b2 := later_cell (cb 2 _ rfl)
  have b3 := later_cell (cb 3 _ rfl)
  have b4 := later_cell (cb 4 _ rfl)
  clear ca cb
  refine wp_region_later_tail 28 (by kernel_rfl) (by kernel_rfl) ?_
  simp only [List.take_succ_cons, List.take_zero, List.drop_succ_cons, List.drop_zero]
  repeat (go_big_quiet_step ((first
    | (go_at_call 28; exact texts_later _ _ _ _ (by assumption) (by assumption))
    | (go_at_call 29; exact calls_later_same (rcmp_calls _ _ _)))))
  refine wpQuiet_nil ?_
  intro W1 hW1
  have hB1 : Below w.heap.size w W1 := by
    obtain ⟨X, rfl⟩ := hW1
    exact hB.trans ((later_below W X).mono hB.size)
  clear hW1 a0 a1 a2 a3 a4 b0 b1 b2 b3 b4 hB
  go_wp2
  have hc0 := six_cells W1 (cmpS ra rb) (cmpS fa fb) (cmpI 1 0) (cmpS qa qb) (cmpI tb ta) (cmpI 4 ka) 3
  have hB2 : Below w.heap.size w (W1.alloc (.cells #[.int .i64 (cmpS ra rb), .int .i64 (cmpS fa fb), .int .i64 (cmpI 1 0), .int .i64 (cmpS qa qb), .int .i64 (cmpI tb ta), .int .i64 (cmpI 4 ka)] 3)) := hB1.alloc (by have := hB1.size; omega) _
  generalize W1.alloc (.cells #[.int .i64 (cmpS ra rb), .int .i64 (cmpS fa fb), .int .i64 (cmpI 1 0), .int .i64 (cmpS qa qb), .int .i64 (cmpI tb ta), .int .i64 (cmpI 4 ka)] 3) = W2 at *
  clear hB1
  generalize W1.heap.size = bl at *
  obtain ⟨l, hl⟩ : ∃ l, l = ordL ⟨ra, fa, qa, ta, ka, va, na, sa⟩ ⟨rb, fb, qb, tb, 4, vb, nb, sb⟩ 1 0 := ⟨_, rfl⟩
  have hc : ∀ k, k < 6 → W2.cell? ⟨bl, k, none⟩ = some (.int .i64 (l.getD k 0)) := fun k hk => by rw [hl]; exact hc0 k hk
  clear hc0
  have hL : Hid (l.length = 6) := by rw [hl]; rfl
  have HL := Lib.hid hl
  clear hl
  go_loop [8] (fun i => ∃ k : Nat, k ≤ 6 ∧ i = .int .i64 k ∧ orI (l.drop k) = orI l) (fun i => 6 - (intOf i).toNat)
  case atStart => exact ⟨0, Nat.zero_le _, rfl, rfl⟩
  case round =>
    obtain ⟨k, hk, rfl, hor⟩ := hrel
    have Hor := Lib.hid hor
    clear hor
    by_cases hlt : k < 6
    · have hck := hc k hlt
      have hd := Lib.hid (orI_drop' l k (by rw [hL.out]; exact hlt))
      clear hc
      generalize l.getD k 0 = x at *
      by_cases h0 : x = 0
      · subst h0
        go_wp2
        go_round
        case rel => exact ⟨k + 1, by omega, by go_num, by rw [← Hor.out, hd.out, if_pos rfl]⟩
        case measure => simp [intOf]; omega
      · have h1 : (x != 0) = true := by simp [h0]
        go_wp2
        go_ret
        exact ⟨ret_int (by rw [← HL.out, ← Hor.out, hd.out, if_neg h0]), hB2⟩
    · clear hc
      go_wp2
      go_ret
      exact ⟨ret_int (by rw [← HL.out, ← Hor.out, List.drop_eq_nil_of_le (by rw [hL.out]; omega)]; rfl), hB2⟩

set_option maxHeartbeats 2000000 in
theorem rorder11 (ra rb fa fb qa qb : ByteArray) (ta tb ka kb va vb na nb : Int) (sa sb : ByteArray) (w : World) (hka : (ka == 4) = false) (hkb : (kb == 4) = false) (h1 : ra.size ≤ 140737488351232) (h2 : rb.size ≤ 140737488351232) (h3 : fa.size ≤ 140737488351232) (h4 : fb.size ≤ 140737488351232) (h5 : qa.size ≤ 140737488351232) (h6 : qb.size ≤ 140737488351232) :
    Calls Tryd.prog 13 #[.agg #[.string ra, .string fa, .string qa, .int .i64 ta, .int .i64 ka, .int .i64 va, .int .i64 na, .string sa], .agg #[.string rb, .string fb, .string qb, .int .i64 tb, .int .i64 kb, .int .i64 vb, .int .i64 nb, .string sb]] w fun e w' => e = .returned (.int .i64 (orI (ordL ⟨ra, fa, qa, ta, ka, va, na, sa⟩ ⟨rb, fb, qb, tb, kb, vb, nb, sb⟩ 1 1))) ∧ Below w.heap.size w w' := by
  go_enter Tryd.func13, Tryd.ntmps13
  go_wp2
  obtain ⟨hB, ca, cb⟩ := two_boxes w #[.string ra, .string fa, .string qa, .int .i64 ta, .int .i64 ka, .int .i64 va, .int .i64 na, .string sa] #[.string rb, .string fb, .string qb, .int .i64 tb, .int .i64 kb, .int .i64 vb, .int .i64 nb, .string sb] 31 31
  generalize hW : (w.alloc (.cells #[.string ra, .string fa, .string qa, .int .i64 ta, .int .i64 ka, .int .i64 va, .int .i64 na, .string sa] 31)).alloc (.cells #[.string rb, .string fb, .string qb, .int .i64 tb, .int .i64 kb, .int .i64 vb, .int .i64 nb, .string sb] 31) = W at *
  clear hW
  have a0 := later_cell (ca 0 _ rfl)
  have a1 := later_cell (ca 1 _ rfl)
  have a2 := later_cell (ca 2 _ rfl)
  have a3 := later_cell (ca 3 _ rfl)
  have a4 := later_cell (ca 4 _ rfl)
  have b0 := later_cell (cb 0 _ rfl)
  have b1 := later_cell (cb 1 _ rfl)
  have b2 := later_cell (cb 2 _ rfl)
  have b3 := later_cell (cb 3 _ rfl)
  have b4 := later_cell (cb 4 _ rfl)
  clear ca cb
  refine wp_region_later_tail 28 (by kernel_rfl) (by kernel_rfl) ?_
  simp only [List.take_succ_cons, List.take_zero, List.drop_succ_cons, List.drop_zero]
  repeat (go_big_quiet_step ((first
    | (go_at_call 28; exact texts_later _ _ _ _ (by assumption) (by assumption))
    | (go_at_call 29; exact calls_later_same (rcmp_calls _ _ _)))))
  refine wpQuiet_nil ?_
  intro W1 hW1
  have hB1 : Below w.heap.size w W1 := by
    obtain ⟨X, rfl⟩ := hW1
    exact hB.trans ((later_below W X).mono hB.size)
  clear hW1 a0 a1 a2 a3 a4 b0 b1 b2 b3 b4 hB
  go_wp2
  have hc0 := six_cells W1 (cmpS ra rb) (cmpS fa fb) (cmpI 1 1) (cmpS qa qb) (cmpI tb ta) (cmpI kb ka) 3
  have hB2 : Below w.heap.size w (W1.alloc (.cells #[.int .i64 (cmpS ra rb), .int .i64 (cmpS fa fb), .int .i64 (cmpI 1 1), .int .i64 (cmpS qa qb), .int .i64 (cmpI tb ta), .int .i64 (cmpI kb ka)] 3)) := hB1.alloc (by have := hB1.size; omega) _
  generalize W1.alloc (.cells #[.int .i64 (cmpS ra rb), .int .i64 (cmpS fa fb), .int .i64 (cmpI 1 1), .int .i64 (cmpS qa qb), .int .i64 (cmpI tb ta), .int .i64 (cmpI kb ka)] 3) = W2 at *
  clear hB1
  generalize W1.heap.size = bl at *
  obtain ⟨l, hl⟩ : ∃ l, l = ordL ⟨ra, fa, qa, ta, ka, va, na, sa⟩ ⟨rb, fb, qb, tb, kb, vb, nb, sb⟩ 1 1 := ⟨_, rfl⟩
  have hc : ∀ k, k < 6 → W2.cell? ⟨bl, k, none⟩ = some (.int .i64 (l.getD k 0)) := fun k hk => by rw [hl]; exact hc0 k hk
  clear hc0
  have hL : Hid (l.length = 6) := by rw [hl]; rfl
  have HL := Lib.hid hl
  clear hl
  go_loop [8] (fun i => ∃ k : Nat, k ≤ 6 ∧ i = .int .i64 k ∧ orI (l.drop k) = orI l) (fun i => 6 - (intOf i).toNat)
  case atStart => exact ⟨0, Nat.zero_le _, rfl, rfl⟩
  case round =>
    obtain ⟨k, hk, rfl, hor⟩ := hrel
    have Hor := Lib.hid hor
    clear hor
    by_cases hlt : k < 6
    · have hck := hc k hlt
      have hd := Lib.hid (orI_drop' l k (by rw [hL.out]; exact hlt))
      clear hc
      generalize l.getD k 0 = x at *
      by_cases h0 : x = 0
      · subst h0
        go_wp2
        go_round
        case rel => exact ⟨k + 1, by omega, by go_num, by rw [← Hor.out, hd.out, if_pos rfl]⟩
        case measure => simp [intOf]; omega
      · have h1 : (x != 0) = true := by simp [h0]
        go_wp2
        go_ret
        exact ⟨ret_int (by rw [← HL.out, ← Hor.out, hd.out, if_neg h0]), hB2⟩
    · clear hc
      go_wp2
      go_ret
      exact ⟨ret_int (by rw [← HL.out, ← Hor.out, List.drop_eq_nil_of_le (by rw [hL.out]; omega)]; rfl), hB2⟩

theorem rorder_calls (a b : Cell) (w : World) (ha : a.small) (hb : b.small) : Calls Tryd.prog 13 #[a.v, b.v] w fun e w' => e = .returned (.int .i64 (a.order b)) ∧ Below w.heap.size w w' := by
  obtain ⟨ra, fa, qa, ta, ka, va, na, sa⟩ := a
  obtain ⟨rb, fb, qb, tb, kb, vb, nb, sb⟩ := b
  obtain ⟨h1, h3, h5⟩ := ha
  obtain ⟨h2, h4, h6⟩ := hb
  by_cases hka : ka = 4 <;> by_cases hkb : kb = 4
  · have e : (Cell.mk ra fa qa ta ka va na sa).order ⟨rb, fb, qb, tb, kb, vb, nb, sb⟩ = orI (ordL ⟨ra, fa, qa, ta, ka, va, na, sa⟩ ⟨rb, fb, qb, tb, kb, vb, nb, sb⟩ 0 0) := by simp [Cell.order, ordL, wholeI, hka, hkb]
    rw [e]
    exact rorder00 _ _ _ _ _ _ _ _ _ _ _ _ _ _ _ _ w (by simp [hka]) (by simp [hkb]) h1 h2 h3 h4 h5 h6
  · have e : (Cell.mk ra fa qa ta ka va na sa).order ⟨rb, fb, qb, tb, kb, vb, nb, sb⟩ = orI (ordL ⟨ra, fa, qa, ta, ka, va, na, sa⟩ ⟨rb, fb, qb, tb, kb, vb, nb, sb⟩ 0 1) := by simp [Cell.order, ordL, wholeI, hka, hkb]
    rw [e]
    exact rorder01 _ _ _ _ _ _ _ _ _ _ _ _ _ _ _ _ w (by simp [hka]) (by simp [hkb]) h1 h2 h3 h4 h5 h6
  · have e : (Cell.mk ra fa qa ta ka va na sa).order ⟨rb, fb, qb, tb, kb, vb, nb, sb⟩ = orI (ordL ⟨ra, fa, qa, ta, ka, va, na, sa⟩ ⟨rb, fb, qb, tb, kb, vb, nb, sb⟩ 1 0) := by simp [Cell.order, ordL, wholeI, hka, hkb]
    rw [e]
    exact rorder10 _ _ _ _ _ _ _ _ _ _ _ _ _ _ _ _ w (by simp [hka]) (by simp [hkb]) h1 h2 h3 h4 h5 h6
  · have e : (Cell.mk ra fa qa ta ka va na sa).order ⟨rb, fb, qb, tb, kb, vb, nb, sb⟩ = orI (ordL ⟨ra, fa, qa, ta, ka, va, na, sa⟩ ⟨rb, fb, qb, tb, kb, vb, nb, sb⟩ 1 1) := by simp [Cell.order, ordL, wholeI, hka, hkb]
    rw [e]
    exact rorder11 _ _ _ _ _ _ _ _ _ _ _ _ _ _ _ _ w (by simp [hka]) (by simp [hkb]) h1 h2 h3 h4 h5 h6
end Go.Proofs.YtndmlldaebdnmaaDoor
