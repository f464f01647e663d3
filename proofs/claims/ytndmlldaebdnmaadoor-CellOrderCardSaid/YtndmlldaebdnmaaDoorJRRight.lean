/-
  Contracts of joistref01.Right, joistref02.Right, joistref03.Name and joistref03.Right: they answer as the program's do.
-/
import Derived.Test.YtndmlldaebdnmaaDoorJRUtf
namespace Go.Proofs.YtndmlldaebdnmaaDoor
open Go.RowKit

theorem rsize_calls (n : Int) (w : World) : Calls Tryd.prog 55 #[.int .i64 n] w fun e w' => e = .returned (.int .i64 (n % 9223372036854775808)) ∧ w' = w := by
  have hb := Lib.hid (andNot_i64_top n)
  go_enter Tryd.func55, Tryd.ntmps55
  go_wp2
  go_ret
  exact ⟨ret_int hb.out, rfl⟩

theorem r1right_calls (n : Int) (w : World) : Calls Tryd.prog 41 #[.int .i64 n] w fun e w' => e = .returned (.bool (floatOk n)) ∧ w' = w := by
  by_cases hc : n % 9223372036854775808 ≤ 9218868437227405312
  · go_enter Tryd.func41, Tryd.ntmps41
    go_wp2_with (go_at_call 55; refine (rsize_calls n _).mono ?_; rintro e w' ⟨rfl, rfl⟩)
    go_ret
    exact ⟨ret_bool (by simp [floatOk, hc]), rfl⟩
  · have hd : decide (n % 9223372036854775808 ≤ 9218868437227405312) = false := decide_eq_false hc
    go_enter Tryd.func41, Tryd.ntmps41
    go_wp2_with (go_at_call 55; refine (rsize_calls n _).mono ?_; rintro e w' ⟨rfl, rfl⟩)
    go_ret
    exact ⟨ret_bool (by rw [floatOk, hd, Bool.false_or]), rfl⟩

theorem r2right_calls (k n : Int) (s : ByteArray) (w : World) :
    Calls Tryd.prog 27 #[.agg #[.int .i64 k, .int .i64 n, .string s]] w fun e w' => e = .returned (.bool (valOk k n s)) ∧ Below w.heap.size w w' := by
  have hB : Below w.heap.size w (w.alloc (.cells #[.int .i64 k, .int .i64 n, .string s] 29)) := (Below.refl _ _).alloc (Nat.le_refl _) _
  by_cases k1 : k = 1
  · subst k1
    by_cases hz : s.size = 0
    · obtain ⟨s1, s2⟩ := str_nil hz
      have Hz := Lib.hid hz
      clear hz
      go_enter Tryd.func27, Tryd.ntmps27
      go_wp2
      go_ret
      exact ⟨ret_bool (by simp [valOk, Hz.out]), hB⟩
    · obtain ⟨s1, s2⟩ := str_ne hz
      go_enter Tryd.func27, Tryd.ntmps27
      go_wp2
      go_ret
      exact ⟨ret_bool (by simp [valOk, hz]), hB⟩
  by_cases k4 : k = 4
  · subst k4
    by_cases hz : s.size = 0
    · obtain ⟨s1, s2⟩ := str_nil hz
      have Hz := Lib.hid hz
      clear hz
      by_cases h0 : n = 0
      · subst h0
        go_enter Tryd.func27, Tryd.ntmps27
        go_wp2
        go_ret
        exact ⟨ret_bool (by simp [valOk, Hz.out]), hB⟩
      · have h0' : (n == 0) = false := by simp [h0]
        go_enter Tryd.func27, Tryd.ntmps27
        go_wp2
        go_ret
        exact ⟨ret_bool (by simp [valOk, Hz.out, h0]), hB⟩
    · obtain ⟨s1, s2⟩ := str_ne hz
      go_enter Tryd.func27, Tryd.ntmps27
      go_wp2
      go_ret
      exact ⟨ret_bool (by simp [valOk, hz]), hB⟩
  by_cases k5 : k = 5
  · subst k5
    by_cases hz : s.size = 0
    · obtain ⟨s1, s2⟩ := str_nil hz
      have Hz := Lib.hid hz
      clear hz
      go_enter Tryd.func27, Tryd.ntmps27
      go_wp2_with (go_at_call 41; refine (r1right_calls n _).mono ?_; rintro e w' ⟨rfl, rfl⟩)
      go_ret
      exact ⟨ret_bool (by simp [valOk, Hz.out]), hB⟩
    · obtain ⟨s1, s2⟩ := str_ne hz
      go_enter Tryd.func27, Tryd.ntmps27
      go_wp2
      go_ret
      exact ⟨ret_bool (by simp [valOk, hz]), hB⟩
  by_cases k2 : k = 2
  · subst k2
    by_cases hz : n = 0
    · subst hz
      by_cases h32 : s.size ≤ 32
      · have h32' : (s.size : Int) ≤ 32 := by omega
        go_enter Tryd.func27, Tryd.ntmps27
        go_wp2
        go_ret
        exact ⟨ret_bool (by simp [valOk, h32]), hB⟩
      · have h32' : ¬ (s.size : Int) ≤ 32 := by omega
        go_enter Tryd.func27, Tryd.ntmps27
        go_wp2
        go_ret
        exact ⟨ret_bool (by rw [valOk, if_neg (by decide), if_neg (by decide), if_neg (by decide), if_pos rfl, decide_eq_false h32]; rfl), hB⟩
    · have hz' : (n == 0) = false := by simp [hz]
      go_enter Tryd.func27, Tryd.ntmps27
      go_wp2
      go_ret
      exact ⟨ret_bool (by rw [valOk, if_neg (by decide), if_neg (by decide), if_neg (by decide), if_pos rfl, hz']; rfl), hB⟩
  by_cases k3 : k = 3
  · subst k3
    by_cases hz : n = 0
    · subst hz
      by_cases h32 : s.size ≤ 32
      · have h32' : (s.size : Int) ≤ 32 := by omega
        go_enter Tryd.func27, Tryd.ntmps27
        go_wp2_with (go_at_call 40; refine (utf8_calls s _ (by omega)).mono ?_; rintro e w' ⟨rfl, rfl⟩)
        go_ret
        exact ⟨ret_bool (by simp [valOk, h32]), hB⟩
      · have h32' : ¬ (s.size : Int) ≤ 32 := by omega
        go_enter Tryd.func27, Tryd.ntmps27
        go_wp2
        go_ret
        exact ⟨ret_bool (by rw [valOk, if_neg (by decide), if_neg (by decide), if_neg (by decide), if_neg (by decide), if_pos rfl, decide_eq_false h32]; rfl), hB⟩
    · have hz' : (n == 0) = false := by simp [hz]
      go_enter Tryd.func27, Tryd.ntmps27
      go_wp2
      go_ret
      exact ⟨ret_bool (by rw [valOk, if_neg (by decide), if_neg (by decide), if_neg (by decide), if_neg (by decide), if_pos rfl, hz']; rfl), hB⟩
  have e1 : (k == 1) = false := by simp [k1]
  have e2 : (k == 2) = false := by simp [k2]
  have e3 : (k == 3) = false := by simp [k3]
  have e4 : (k == 4) = false := by simp [k4]
  have e5 : (k == 5) = false := by simp [k5]
  go_enter Tryd.func27, Tryd.ntmps27
  go_wp2
  go_ret
  exact ⟨ret_bool (by rw [valOk, if_neg k1, if_neg k4, if_neg k5, if_neg k2, if_neg k3]), hB⟩

set_option maxRecDepth 100000 in
set_option maxHeartbeats 2000000 in
theorem rname_calls (s : ByteArray) (w : World) (hs : s.size ≤ 140737488351232) : Calls Tryd.prog 26 #[.string s] w fun e w' => e = .returned (.bool (nameOk s)) ∧ w' = w := by
  go_enter Tryd.func26, Tryd.ntmps26
  go_wp2
  go_loop [3] (fun i => ∃ k : Nat, k ≤ s.size ∧ i = .int .i64 k ∧ Hid (∀ j, j < k → nameChar (by_ s j) = true)) (fun i => s.size - (intOf i).toNat)
  case atStart => exact ⟨0, Nat.zero_le _, rfl, fun j hj => absurd hj (Nat.not_lt_zero j)⟩
  case round =>
    obtain ⟨k, hk, rfl, hall⟩ := hrel
    by_cases hlt : k < s.size
    · have hb := Lib.hid (by_at s k hlt)
      have h0 : ((s[k]).toNat : Int) < 256 := by rw [← hb.out]; have := by_lt s k; omega
      by_cases hc : nameChar (by_ s k) = true
      · have Hc := Lib.hid hc
        rw [hb.out] at hc
        unfold nameChar at hc
        simp only [Bool.or_eq_true, Bool.and_eq_true, decide_eq_true_eq] at hc
        by_cases h1 : 97 ≤ (s[k]).toNat ∧ (s[k]).toNat ≤ 122
        · have e1 : (97 : Int) ≤ ((s[k]).toNat : Int) := by omega
          have e2 : ((s[k]).toNat : Int) ≤ 122 := by omega
          clear hc h1
          go_wp2
          go_round
          case rel => exact ⟨k + 1, by omega, by go_num, fun j hj => if h : j = k then h ▸ Hc.out else hall.out j (by omega)⟩
          case measure => simp [intOf]; omega
        · have e1 : ((s[k]).toNat : Int) < 97 := by omega
          have e2 : (48 : Int) ≤ ((s[k]).toNat : Int) := by omega
          have e3 : ((s[k]).toNat : Int) ≤ 57 := by omega
          clear hc h1
          go_wp2
          go_round
          case rel => exact ⟨k + 1, by omega, by go_num, fun j hj => if h : j = k then h ▸ Hc.out else hall.out j (by omega)⟩
          case measure => simp [intOf]; omega
      · have Hn : nameOk s = false := by
          unfold nameOk
          have : (s.data.toList.all fun c => nameChar c.toNat) = false := by
            rw [← Bool.not_eq_true, List.all_eq_true]
            intro h
            have hk' : k < s.data.toList.length := by simpa using hlt
            have := h _ (List.getElem_mem hk')
            rw [hb.out] at hc
            exact hc this
          rw [this, Bool.and_false, Bool.and_false]
        have HN := Lib.hid Hn
        clear Hn
        rw [hb.out] at hc
        unfold nameChar at hc
        simp only [Bool.or_eq_true, Bool.and_eq_true, decide_eq_true_eq] at hc
        by_cases h1 : 97 ≤ (s[k]).toNat
        · have e1 : (97 : Int) ≤ ((s[k]).toNat : Int) := by omega
          have e2 : (122 : Int) < ((s[k]).toNat : Int) := by omega
          have e3 : (57 : Int) < ((s[k]).toNat : Int) := by omega
          have e4 : (48 : Int) ≤ ((s[k]).toNat : Int) := by omega
          have d2 := decide_eq_false (p := ((s[k]).toNat : Int) ≤ 122) (by omega)
          have d3 := decide_eq_false (p := ((s[k]).toNat : Int) ≤ 57) (by omega)
          clear hc h1
          go_wp2
          go_ret
          exact ⟨ret_bool HN.out.symm, rfl⟩
        · have e1 : ((s[k]).toNat : Int) < 97 := by omega
          by_cases h2 : 48 ≤ (s[k]).toNat
          · have e2 : (48 : Int) ≤ ((s[k]).toNat : Int) := by omega
            have e3 : (57 : Int) < ((s[k]).toNat : Int) := by omega
            have d3 := decide_eq_false (p := ((s[k]).toNat : Int) ≤ 57) (by omega)
            clear hc h1 h2
            go_wp2
            go_ret
            exact ⟨ret_bool HN.out.symm, rfl⟩
          · have e2 : ((s[k]).toNat : Int) < 48 := by omega
            clear hc h1 h2
            go_wp2
            go_ret
            exact ⟨ret_bool HN.out.symm, rfl⟩
    · obtain rfl : k = s.size := by omega
      have hA : Hid ((s.data.toList.all fun c => nameChar c.toNat) = true) := by
        unfold Hid
        rw [List.all_eq_true]
        intro c hc
        obtain ⟨j, hj, rfl⟩ := List.mem_iff_getElem.1 hc
        have hj' : j < s.size := by simpa using hj
        have := hall.out j hj'
        rw [by_at s j hj'] at this
        exact this
      by_cases h1 : 1 ≤ s.size
      · have e1 : (1 : Int) ≤ (s.size : Int) := by omega
        by_cases h2 : s.size ≤ 8
        · have e2 : (s.size : Int) ≤ 8 := by omega
          go_wp2
          go_ret
          exact ⟨ret_bool (by rw [nameOk, hA.out, decide_eq_true h1, decide_eq_true h2]; rfl), rfl⟩
        · have e2 : ¬ (s.size : Int) ≤ 8 := by omega
          go_wp2
          go_ret
          exact ⟨ret_bool (by rw [nameOk, decide_eq_true h1, decide_eq_false h2]; rfl), rfl⟩
      · have e1 : ¬ (1 : Int) ≤ (s.size : Int) := by omega
        go_wp2
        go_ret
        exact ⟨ret_bool (by rw [nameOk, decide_eq_false h1]; rfl), rfl⟩

theorem rname_below (s : ByteArray) (w : World) (hs : s.size ≤ 140737488351232) : Calls Tryd.prog 26 #[.string s] w fun e w' => e = .returned (.bool (nameOk s)) ∧ Below w.heap.size w w' :=
  (rname_calls s w hs).mono fun _ _ ⟨h1, h2⟩ => ⟨h1, h2 ▸ Below.refl _ _⟩

attribute [local go_sem high] eqVal

set_option maxHeartbeats 4000000 in
theorem rright_calls (c : Cell) (w : World) (hc : c.fits) :
    Calls Tryd.prog 12 #[c.v] w fun e w' => e = .returned (.bool c.ok) ∧ Below w.heap.size w w' := by
  obtain ⟨row, fam, qual, time, kind, vk, vn, vs⟩ := c
  obtain ⟨hrow, hfam, hqual, hvs, htime, hkind, hvk, hvn⟩ := hc
  simp only at hrow hfam hqual hvs htime hkind hvk hvn
  have hB : Below w.heap.size w (w.alloc (.cells (Cell.mk row fam qual time kind vk vn vs).cells 31)) := (Below.refl _ _).alloc (Nat.le_refl _) _
  by_cases h1 : row.size = 0
  · obtain ⟨s1, s2⟩ := str_nil h1
    have H := Lib.hid h1
    have h1' : (row.size : Int) < 1 := by omega
    clear h1
    go_enter Tryd.func12, Tryd.ntmps12
    go_wp2
    go_ret
    exact ⟨ret_bool (by simp [Cell.ok, H.out]), hB⟩
  obtain ⟨s1, s2⟩ := str_ne h1
  have h1' : ¬ (row.size : Int) < 1 := by omega
  by_cases h2 : row.size ≤ 16
  case neg =>
    have h2' : ¬ (row.size : Int) ≤ 16 := by omega
    go_enter Tryd.func12, Tryd.ntmps12
    go_wp2
    go_ret
    exact ⟨ret_bool (by simp only [Cell.ok, decide_eq_false h2, Bool.false_and, Bool.and_false]), hB⟩
  have h2' : (row.size : Int) ≤ 16 := by omega
  have hname := Lib.hid (rname_below fam (w.alloc (.cells (Cell.mk row fam qual time kind vk vn vs).cells 31)) hfam)
  cases h3 : nameOk fam with
  | false =>
    rw [h3] at hname
    have H3 := Lib.hid h3
    clear h3
    go_enter Tryd.func12, Tryd.ntmps12
    go_wp2_with (go_at_call 26; refine (hname.out).mono ?_; rintro e w' ⟨rfl, hb⟩)
    go_ret
    exact ⟨ret_bool (by simp [Cell.ok, H3.out]), hB.trans (hb.mono hB.size)⟩
  | true =>
    rw [h3] at hname
    have H3 := Lib.hid h3
    clear h3
    have hcell := (one_box w (Cell.mk row fam qual time kind vk vn vs).cells 31).2
    have Hd : (Cell.mk row fam qual time kind vk vn vs).ok = (decide (qual.size ≤ 12) && (decide (0 ≤ time) && (decide (time ≤ 1099511627776) && kindOk (Cell.mk row fam qual time kind vk vn vs)))) := by
      simp only [Cell.ok, decide_eq_true h1, decide_eq_true h2, H3.out, Bool.true_and]
    have HD := Lib.hid Hd
    clear Hd
    by_cases h4 : qual.size ≤ 12
    case neg =>
      have h4' : ¬ (qual.size : Int) ≤ 12 := by omega
      go_enter Tryd.func12, Tryd.ntmps12
      go_wp2_with (first | (go_at_call 26; refine (hname.out).mono ?_; rintro e w' ⟨rfl, hb⟩; have z0 := below_cell hb (Nat.le_refl _) (hcell 2 _ rfl); have z1 := below_cell hb (Nat.le_refl _) (hcell 3 _ rfl); have z2 := below_cell hb (Nat.le_refl _) (hcell 4 _ rfl); have z3 := below_cell hb (Nat.le_refl _) (hcell 5 _ rfl); have z4 := below_cell hb (Nat.le_refl _) (hcell 6 _ rfl); have z5 := below_cell hb (Nat.le_refl _) (hcell 7 _ rfl)))
      go_ret
      exact ⟨ret_bool (by rw [HD.out, decide_eq_false h4]; rfl), hB.trans (hb.mono hB.size)⟩
    have h4' : (qual.size : Int) ≤ 12 := by omega
    by_cases h5 : 0 ≤ time
    case neg =>
      go_enter Tryd.func12, Tryd.ntmps12
      go_wp2_with (first | (go_at_call 26; refine (hname.out).mono ?_; rintro e w' ⟨rfl, hb⟩; have z0 := below_cell hb (Nat.le_refl _) (hcell 2 _ rfl); have z1 := below_cell hb (Nat.le_refl _) (hcell 3 _ rfl); have z2 := below_cell hb (Nat.le_refl _) (hcell 4 _ rfl); have z3 := below_cell hb (Nat.le_refl _) (hcell 5 _ rfl); have z4 := below_cell hb (Nat.le_refl _) (hcell 6 _ rfl); have z5 := below_cell hb (Nat.le_refl _) (hcell 7 _ rfl)))
      go_ret
      exact ⟨ret_bool (by rw [HD.out, decide_eq_false (p := 0 ≤ time) (by omega)]; simp), hB.trans (hb.mono hB.size)⟩
    by_cases h6 : time ≤ 1099511627776
    case neg =>
      go_enter Tryd.func12, Tryd.ntmps12
      go_wp2_with (first | (go_at_call 26; refine (hname.out).mono ?_; rintro e w' ⟨rfl, hb⟩; have z0 := below_cell hb (Nat.le_refl _) (hcell 2 _ rfl); have z1 := below_cell hb (Nat.le_refl _) (hcell 3 _ rfl); have z2 := below_cell hb (Nat.le_refl _) (hcell 4 _ rfl); have z3 := below_cell hb (Nat.le_refl _) (hcell 5 _ rfl); have z4 := below_cell hb (Nat.le_refl _) (hcell 6 _ rfl); have z5 := below_cell hb (Nat.le_refl _) (hcell 7 _ rfl)))
      go_ret
      exact ⟨ret_bool (by rw [HD.out, decide_eq_false (p := time ≤ 1099511627776) (by omega)]; simp), hB.trans (hb.mono hB.size)⟩
    have HK : (Cell.mk row fam qual time kind vk vn vs).ok = kindOk (Cell.mk row fam qual time kind vk vn vs) := by rw [HD.out, decide_eq_true h4, decide_eq_true h5, decide_eq_true h6]; rfl
    have HK' := Lib.hid HK
    clear HK HD
    rename _ => HK
    by_cases k1 : kind = 1
    · subst kind
      go_enter Tryd.func12, Tryd.ntmps12
      go_wp2_with (first | (go_at_call 26; refine (hname.out).mono ?_; rintro e w' ⟨rfl, hb⟩; have z0 := below_cell hb (Nat.le_refl _) (hcell 2 _ rfl); have z1 := below_cell hb (Nat.le_refl _) (hcell 3 _ rfl); have z2 := below_cell hb (Nat.le_refl _) (hcell 4 _ rfl); have z3 := below_cell hb (Nat.le_refl _) (hcell 5 _ rfl); have z4 := below_cell hb (Nat.le_refl _) (hcell 6 _ rfl); have z5 := below_cell hb (Nat.le_refl _) (hcell 7 _ rfl)) | (go_at_call 27; refine (r2right_calls vk vn vs _).mono ?_; rintro e w'' ⟨rfl, hb2⟩))
      go_ret
      exact ⟨ret_bool (by rw [HK.out, kindOk, if_pos rfl]), hB.trans ((hb.trans (hb2.mono hb.size)).mono hB.size)⟩
    have e1 : (kind == 1) = false := by simp [k1]
    by_cases k2 : kind = 2
    · subst kind
      go_enter Tryd.func12, Tryd.ntmps12
      go_wp2_with (first | (go_at_call 26; refine (hname.out).mono ?_; rintro e w' ⟨rfl, hb⟩; have z0 := below_cell hb (Nat.le_refl _) (hcell 2 _ rfl); have z1 := below_cell hb (Nat.le_refl _) (hcell 3 _ rfl); have z2 := below_cell hb (Nat.le_refl _) (hcell 4 _ rfl); have z3 := below_cell hb (Nat.le_refl _) (hcell 5 _ rfl); have z4 := below_cell hb (Nat.le_refl _) (hcell 6 _ rfl); have z5 := below_cell hb (Nat.le_refl _) (hcell 7 _ rfl)))
      go_ret
      exact ⟨ret_bool (by rw [HK.out, kindOk, if_neg (by simp), if_pos rfl]; rfl), hB.trans (hb.mono hB.size)⟩
    have e2 : (kind == 2) = false := by simp [k2]
    by_cases k3 : kind = 3
    · subst kind
      go_enter Tryd.func12, Tryd.ntmps12
      go_wp2_with (first | (go_at_call 26; refine (hname.out).mono ?_; rintro e w' ⟨rfl, hb⟩; have z0 := below_cell hb (Nat.le_refl _) (hcell 2 _ rfl); have z1 := below_cell hb (Nat.le_refl _) (hcell 3 _ rfl); have z2 := below_cell hb (Nat.le_refl _) (hcell 4 _ rfl); have z3 := below_cell hb (Nat.le_refl _) (hcell 5 _ rfl); have z4 := below_cell hb (Nat.le_refl _) (hcell 6 _ rfl); have z5 := below_cell hb (Nat.le_refl _) (hcell 7 _ rfl)))
      go_ret
      exact ⟨ret_bool (by rw [HK.out, kindOk, if_neg (by simp), if_neg (by simp), if_pos rfl]; rfl), hB.trans (hb.mono hB.size)⟩
    have e3 : (kind == 3) = false := by simp [k3]
    by_cases k4 : kind = 4
    · subst kind
      go_enter Tryd.func12, Tryd.ntmps12
      go_wp2_with (go_at_call 26; refine (hname.out).mono ?_; rintro e w' ⟨rfl, hb⟩; have z0 := below_cell hb (Nat.le_refl _) (hcell 2 _ rfl); have z1 := below_cell hb (Nat.le_refl _) (hcell 3 _ rfl); have z2 := below_cell hb (Nat.le_refl _) (hcell 4 _ rfl); have z3 := below_cell hb (Nat.le_refl _) (hcell 5 _ rfl); have z4 := below_cell hb (Nat.le_refl _) (hcell 6 _ rfl); have z5 := below_cell hb (Nat.le_refl _) (hcell 7 _ rfl))
      · go_ret
        refine ⟨ret_bool ?_, hB.trans (hb.mono hB.size)⟩
        have h : vk = 0 ∧ vn = 0 ∧ vs.toList = [] := by assumption
        rw [HK.out]
        simp [kindOk, zeroOk, h.1, h.2.1, h.2.2, str_empty]
      · go_ret
        refine ⟨ret_bool ?_, hB.trans (hb.mono hB.size)⟩
        have h : ¬ (vk = 0 ∧ vn = 0 ∧ vs.toList = []) := by assumption
        rw [HK.out]
        have h2 : zeroOk (Cell.mk row fam qual time 4 vk vn vs) = false := by
          rw [← Bool.not_eq_true]
          intro h3
          simp only [zeroOk, Bool.and_eq_true, beq_iff_eq, List.isEmpty_iff] at h3
          exact h h3
        simp [kindOk, h2]
    have e4 : (kind == 4) = false := by simp [k4]
    have k1 := Lib.hid k1
    have k2 := Lib.hid k2
    have k3 := Lib.hid k3
    have k4 := Lib.hid k4
    go_enter Tryd.func12, Tryd.ntmps12
    go_wp2_with (first | (go_at_call 26; refine (hname.out).mono ?_; rintro e w' ⟨rfl, hb⟩; have z0 := below_cell hb (Nat.le_refl _) (hcell 2 _ rfl); have z1 := below_cell hb (Nat.le_refl _) (hcell 3 _ rfl); have z2 := below_cell hb (Nat.le_refl _) (hcell 4 _ rfl); have z3 := below_cell hb (Nat.le_refl _) (hcell 5 _ rfl); have z4 := below_cell hb (Nat.le_refl _) (hcell 6 _ rfl); have z5 := below_cell hb (Nat.le_refl _) (hcell 7 _ rfl)))
    go_ret
    exact ⟨ret_bool (by rw [HK.out, kindOk, if_neg k1.out, if_neg k2.out, if_neg k3.out, if_neg k4.out]), hB.trans (hb.mono hB.size)⟩
end Go.Proofs.YtndmlldaebdnmaaDoor
