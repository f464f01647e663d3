/-
  Contracts of float.Right, val.Right, codec.name and codec.Right.
-/
import Derived.Test.YtndmlldaebdnmaaDoorJOrder
import Derived.Test.YtndmlldaebdnmaaDoorJBits
import Derived.Test.YtndmlldaebdnmaaDoorJEq
namespace Go.Proofs.YtndmlldaebdnmaaDoor
open Go.RowKit

/-- Are bits right? -/
def floatOk (n : Int) : Bool := decide (n % 9223372036854775808 ≤ 9218868437227405312) || n == 9221120237041090560

theorem floatOk_wrap (n : Int) (h0 : -9223372036854775808 ≤ n) (h1 : n < 9223372036854775808) : 0 ≤ IntKind.u64.wrap n ∧ IntKind.u64.wrap n < 18446744073709551616 ∧ floatOk (IntKind.u64.wrap n) = floatOk n := by
  have e : IntKind.u64.wrap n = n % 18446744073709551616 := IntKind.wrap_u64 n
  rw [e]
  refine ⟨by omega, by omega, ?_⟩
  unfold floatOk
  have e1 : n % 18446744073709551616 % 9223372036854775808 = n % 9223372036854775808 := by omega
  have e2 : (n % 18446744073709551616 == 9221120237041090560) = (n == 9221120237041090560) := by
    rw [Bool.eq_iff_iff, beq_iff_eq, beq_iff_eq]; omega
  rw [e1, e2]

theorem bright_calls (u : Int) (w : World) (h0 : 0 ≤ u) (h1 : u < 18446744073709551616) : Calls Tryd.prog 69 #[.int .u64 u] w fun e w' => e = .returned (.bool (floatOk u)) ∧ w' = w := by
  have hb := andNot_u64_top u h0 h1
  by_cases hc : u % 9223372036854775808 ≤ 9218868437227405312
  · have h : bits BinOp.andNot IntKind.u64 u 9223372036854775808 ≤ 9218868437227405312 := by rw [hb]; exact hc
    clear hb
    go_enter Tryd.func69, Tryd.ntmps69
    go_wp2
    go_ret
    exact ⟨ret_bool (by simp [floatOk, hc]), rfl⟩
  · have h : ¬ bits BinOp.andNot IntKind.u64 u 9223372036854775808 ≤ 9218868437227405312 := by rw [hb]; exact hc
    have hd : decide (bits BinOp.andNot IntKind.u64 u 9223372036854775808 ≤ 9218868437227405312) = false := decide_eq_false h
    clear hb
    go_enter Tryd.func69, Tryd.ntmps69
    go_wp2
    go_ret
    exact ⟨ret_bool (by rw [floatOk, decide_eq_false (p := u % 9223372036854775808 ≤ 9218868437227405312) (by omega), Bool.false_or]), rfl⟩

theorem fright_calls (n : Int) (w : World) (h0 : -9223372036854775808 ≤ n) (h1 : n < 9223372036854775808) : Calls Tryd.prog 49 #[.int .i64 n] w fun e w' => e = .returned (.bool (floatOk n)) ∧ w' = w := by
  obtain ⟨e0, e1, e2⟩ := floatOk_wrap n h0 h1
  have E2 := Lib.hid e2
  clear e2
  go_enter Tryd.func49, Tryd.ntmps49
  go_wp2_with (go_at_call 69; refine (bright_calls _ _ e0 e1).mono ?_; rintro e w' ⟨rfl, rfl⟩)
  go_ret
  exact ⟨ret_bool E2.out, rfl⟩
/-- May a byte stand in a family's name? -/
def nameChar (c : Nat) : Bool := (97 ≤ c && c ≤ 122) || (48 ≤ c && c ≤ 57)
/-- Is a text a family's name? -/
def nameOk (s : ByteArray) : Bool := decide (1 ≤ s.size) && (decide (s.size ≤ 8) && s.data.toList.all fun c => nameChar c.toNat)

theorem decode_big (s : ByteArray) (i : Nat) (h : ¬ (s.get! i).toNat < 128) : 128 ≤ (Utf8.decode s i).1 := by
  have e1 : Utf8.runeError = 65533 := rfl
  unfold Utf8.decode
  simp only [Nat.add_zero]
  rw [if_neg h]
  split
  · split
    · assumption
    · simp [e1]
  · split
    · split
      · rename_i hc; simp only [Bool.and_eq_true, decide_eq_true_eq] at hc; omega
      · simp [e1]
    · split
      · split
        · rename_i hc; simp only [Bool.and_eq_true, decide_eq_true_eq] at hc; omega
        · simp [e1]
      · simp [e1]
theorem decode_small (s : ByteArray) (i : Nat) (h : (s.get! i).toNat < 128) : Utf8.decode s i = ((s.get! i).toNat, 1) := by
  unfold Utf8.decode
  simp only [Nat.add_zero]
  rw [if_pos h]

theorem get_at (s : ByteArray) (i : Nat) (h : i < s.size) : s.get! i = s.data.toList[i]'(by simpa using h) := by
  show s.data[i]! = _
  have hs : i < s.data.size := h
  rw [getElem!_pos s.data i hs]
  simp

theorem idx_name (s : ByteArray) : ∀ (f pos : Nat), s.size ≤ pos + f → (0 ≤ Lib.idxFuncFrom (fun r => !nameChar r) true s f pos ↔ ¬ ∀ i, pos ≤ i → i < s.size → nameChar (s.get! i).toNat = true)
  | 0, pos, h => by
    simp only [Lib.idxFuncFrom]
    constructor
    · intro h; omega
    · intro h1; exact absurd (fun i h2 h3 => by omega) h1
  | f + 1, pos, h => by
    unfold Lib.idxFuncFrom
    by_cases hlt : pos < s.size
    · rw [if_pos hlt]
      by_cases hc : nameChar (s.get! pos).toNat = true
      · have hs : (s.get! pos).toNat < 128 := by
          unfold nameChar at hc
          simp only [Bool.or_eq_true, Bool.and_eq_true, decide_eq_true_eq] at hc
          omega
        rw [decode_small s pos hs]
        simp only [hc, Bool.not_true, Bool.false_eq_true, if_false]
        rw [idx_name s f (pos + 1) (by omega)]
        constructor
        · intro h1 h2; exact h1 fun i h3 h4 => h2 i (by omega) h4
        · intro h1 h2
          refine h1 fun i h3 h4 => ?_
          by_cases hi : i = pos
          · rw [hi]; exact hc
          · exact h2 i (by omega) h4
      · have hp : (!nameChar (Utf8.decode s pos).1) = true := by
          by_cases hs : (s.get! pos).toNat < 128
          · rw [decode_small s pos hs]; simpa using hc
          · have := decode_big s pos hs
            unfold nameChar
            simp only [Bool.not_eq_true', Bool.or_eq_false_iff, Bool.and_eq_false_iff, decide_eq_false_iff_not]
            omega
        rw [if_pos hp]
        constructor
        · intro _ h2; exact hc (h2 pos (Nat.le_refl _) hlt)
        · intro _; omega
    · rw [if_neg hlt]
      constructor
      · intro h; omega
      · intro h1; exact absurd (fun i h2 h3 => by omega) h1

theorem idx_name0 (s : ByteArray) : decide (0 ≤ Lib.idxFunc (fun r => !nameChar r) true s) = !(s.data.toList.all fun c => nameChar c.toNat) := by
  have h := idx_name s s.size 0 (by omega)
  unfold Lib.idxFunc
  rw [Bool.eq_iff_iff, decide_eq_true_eq, h, Bool.not_eq_true', ← Bool.not_eq_true, List.all_eq_true]
  refine not_congr ⟨fun h c hc => ?_, fun h i _ hi => ?_⟩
  · obtain ⟨i, hi, rfl⟩ := List.mem_iff_getElem.1 hc
    have hi' : i < s.size := by simpa using hi
    have := h i (Nat.zero_le _) hi'
    rwa [get_at s i hi'] at this
  · rw [get_at s i hi]; exact h _ (List.getElem_mem _)

theorem other_calls (x : Nat) (w : World) : Calls Tryd.prog 47 #[.int .i32 x] w fun e w' => e = .returned (.bool (!nameChar x)) ∧ w' = w := by
  go_enter Tryd.func47, Tryd.ntmps47
  go_wp2
  all_goals go_ret
  all_goals refine ⟨ret_bool ?_, rfl⟩
  all_goals rw [Bool.eq_iff_iff]
  all_goals simp only [nameChar, Bool.and_eq_true, Bool.or_eq_true, decide_eq_true_eq, Bool.not_eq_true', Bool.or_eq_false_iff, Bool.and_eq_false_iff, decide_eq_false_iff_not, Bool.false_eq_true, true_iff, false_iff]
  all_goals omega

theorem name_calls (s : ByteArray) (w : World) (hs : s.size ≤ 140737488351232) : Calls Tryd.prog 33 #[.string s] w fun e w' => e = .returned (.bool (nameOk s)) ∧ Below w.heap.size w w' := by
  have eg : ∀ args w, (callFunc 47 args).run Tryd.prog w = .ok (.enter 47 args) w := enters_of Tryd.func47 (by kernel_rfl) rfl
  have hp : ∀ W, PredAtRunes Tryd.prog 47 #[] (fun r => !nameChar r) W := fun _ W x _ _ => (other_calls x W).mono fun e w' ⟨h1, h2⟩ => ⟨h1, 0, h2⟩
  have E0 := Lib.hid (idx_name0 s)
  by_cases h0 : s.size = 0
  · obtain ⟨s1, s2⟩ := str_nil h0
    have h0' := Lib.hid h0
    clear h0
    go_enter Tryd.func33, Tryd.ntmps33
    go_wp2
    go_ret
    exact ⟨ret_bool (by rw [nameOk, decide_eq_false (p := 1 ≤ s.size) (by rw [h0'.out]; omega)]; rfl), Below.refl _ _⟩
  · obtain ⟨s1, s2⟩ := str_ne h0
    by_cases h8 : s.size ≤ 8
    · have h8' : (s.size : Int) ≤ 8 := by omega
      go_enter Tryd.func33, Tryd.ntmps33
      go_wp2_with (go_at_call 48; refine (Tryd.strings_ContainsFunc_runes _ _ eg _ _ _ (hp _)).mono ?_; rintro e w' ⟨rfl, hb⟩)
      go_ret
      exact ⟨ret_bool (by rw [E0.out, nameOk, decide_eq_true (p := 1 ≤ s.size) (by omega), decide_eq_true h8]; simp), hb⟩
    · have h8' : ¬ (s.size : Int) ≤ 8 := by omega
      go_enter Tryd.func33, Tryd.ntmps33
      go_wp2
      go_ret
      exact ⟨ret_bool (by rw [nameOk, decide_eq_true (p := 1 ≤ s.size) (by omega), decide_eq_false h8]; rfl), Below.refl _ _⟩
theorem tabs_below {w w' : World} (h : Lib.Utf8Tabs 0 1 w) (hb : Below w.heap.size w w') : Lib.Utf8Tabs 0 1 w' :=
  ⟨fun c hc => below_cell hb (Nat.le_refl _) (h.1 c hc), fun i hi => ⟨below_cell hb (Nat.le_refl _) (h.2 i hi).1, below_cell hb (Nat.le_refl _) (h.2 i hi).2⟩⟩

/-- Is a value right? -/
def valOk (k n : Int) (s : ByteArray) : Bool :=
  if k = 1 then decide (s.size = 0)
  else if k = 4 then decide (s.size = 0) && (n == 0 || n == 1)
  else if k = 5 then decide (s.size = 0) && floatOk n
  else if k = 2 then n == 0 && decide (s.size ≤ 32)
  else if k = 3 then n == 0 && (decide (s.size ≤ 32) && Lib.validD s.data.toList)
  else false

def isInt (n : Int) : Prop := -9223372036854775808 ≤ n ∧ n < 9223372036854775808

theorem vright_calls (k n : Int) (s : ByteArray) (w : World) (hn : isInt n) (hs : s.size ≤ 140737488351232) (hT : Lib.Utf8Tabs 0 1 w) :
    Calls Tryd.prog 34 #[.agg #[.int .i64 k, .int .i64 n, .string s]] w fun e w' => e = .returned (.bool (valOk k n s)) ∧ Below w.heap.size w w' := by
  have hB : Below w.heap.size w (w.alloc (.cells #[.int .i64 k, .int .i64 n, .string s] 29)) := (Below.refl _ _).alloc (Nat.le_refl _) _
  have HT := Lib.hid (tabs_below hT hB)
  clear hT
  obtain ⟨n0, n1⟩ := hn
  by_cases k1 : k = 1
  · subst k1
    by_cases hz : s.size = 0
    · obtain ⟨s1, s2⟩ := str_nil hz
      have Hz := Lib.hid hz
      clear hz
      go_enter Tryd.func34, Tryd.ntmps34
      go_wp2
      go_ret
      exact ⟨ret_bool (by simp [valOk, Hz.out]), hB⟩
    · obtain ⟨s1, s2⟩ := str_ne hz
      go_enter Tryd.func34, Tryd.ntmps34
      go_wp2
      go_ret
      exact ⟨ret_bool (by simp [valOk, hz]), hB⟩
  by_cases k4 : k = 4
  · subst k4
    have hbit := Lib.hid (andNot_i64_one n n0 n1)
    by_cases hz : s.size = 0
    · obtain ⟨s1, s2⟩ := str_nil hz
      have Hz := Lib.hid hz
      clear hz
      go_enter Tryd.func34, Tryd.ntmps34
      go_wp2
      go_ret
      exact ⟨ret_bool (by rw [hbit.out]; simp [valOk, Hz.out]), hB⟩
    · obtain ⟨s1, s2⟩ := str_ne hz
      go_enter Tryd.func34, Tryd.ntmps34
      go_wp2
      go_ret
      exact ⟨ret_bool (by simp [valOk, hz]), hB⟩
  by_cases k5 : k = 5
  · subst k5
    by_cases hz : s.size = 0
    · obtain ⟨s1, s2⟩ := str_nil hz
      have Hz := Lib.hid hz
      clear hz
      go_enter Tryd.func34, Tryd.ntmps34
      go_wp2_with (go_at_call 49; refine (fright_calls n _ n0 n1).mono ?_; rintro e w' ⟨rfl, rfl⟩)
      go_ret
      exact ⟨ret_bool (by simp [valOk, Hz.out]), hB⟩
    · obtain ⟨s1, s2⟩ := str_ne hz
      go_enter Tryd.func34, Tryd.ntmps34
      go_wp2
      go_ret
      exact ⟨ret_bool (by simp [valOk, hz]), hB⟩
  by_cases k2 : k = 2
  · subst k2
    by_cases hz : n = 0
    · subst hz
      by_cases h32 : s.size ≤ 32
      · have h32' : (s.size : Int) ≤ 32 := by omega
        go_enter Tryd.func34, Tryd.ntmps34
        go_wp2
        go_ret
        exact ⟨ret_bool (by simp [valOk, h32]), hB⟩
      · have h32' : ¬ (s.size : Int) ≤ 32 := by omega
        go_enter Tryd.func34, Tryd.ntmps34
        go_wp2
        go_ret
        exact ⟨ret_bool (by rw [valOk, if_neg (by decide), if_neg (by decide), if_neg (by decide), if_pos rfl, decide_eq_false h32]; rfl), hB⟩
    · have hz' : (n == 0) = false := by simp [hz]
      go_enter Tryd.func34, Tryd.ntmps34
      go_wp2
      go_ret
      exact ⟨ret_bool (by rw [valOk, if_neg (by decide), if_neg (by decide), if_neg (by decide), if_pos rfl, hz']; rfl), hB⟩
  by_cases k3 : k = 3
  · subst k3
    by_cases hz : n = 0
    · subst hz
      by_cases h32 : s.size ≤ 32
      · have h32' : (s.size : Int) ≤ 32 := by omega
        go_enter Tryd.func34, Tryd.ntmps34
        go_wp2_with (go_at_call 50; refine (Tryd.utf8_ValidString s _ (by omega) HT.out).mono ?_; rintro e w' ⟨rfl, hb⟩)
        go_ret
        exact ⟨ret_bool (by simp [valOk, h32]), hB.trans (hb.mono hB.size)⟩
      · have h32' : ¬ (s.size : Int) ≤ 32 := by omega
        go_enter Tryd.func34, Tryd.ntmps34
        go_wp2
        go_ret
        exact ⟨ret_bool (by rw [valOk, if_neg (by decide), if_neg (by decide), if_neg (by decide), if_neg (by decide), if_pos rfl, decide_eq_false h32]; rfl), hB⟩
    · have hz' : (n == 0) = false := by simp [hz]
      go_enter Tryd.func34, Tryd.ntmps34
      go_wp2
      go_ret
      exact ⟨ret_bool (by rw [valOk, if_neg (by decide), if_neg (by decide), if_neg (by decide), if_neg (by decide), if_pos rfl, hz']; rfl), hB⟩
  have e1 : (k == 1) = false := by simp [k1]
  have e2 : (k == 2) = false := by simp [k2]
  have e3 : (k == 3) = false := by simp [k3]
  have e4 : (k == 4) = false := by simp [k4]
  have e5 : (k == 5) = false := by simp [k5]
  go_enter Tryd.func34, Tryd.ntmps34
  go_wp2
  go_ret
  exact ⟨ret_bool (by rw [valOk, if_neg k1, if_neg k4, if_neg k5, if_neg k2, if_neg k3]), hB⟩
def zeroOk (c : Cell) : Bool := c.vk == 0 && (c.vn == 0 && c.vs.toList.isEmpty)
def kindOk (c : Cell) : Bool :=
  if c.kind = 1 then valOk c.vk c.vn c.vs
  else if c.kind = 2 then zeroOk c
  else if c.kind = 3 then zeroOk c
  else if c.kind = 4 then zeroOk c && decide (c.qual.size = 0)
  else false
/-- Is a cell right? -/
def Cell.ok (c : Cell) : Bool :=
  decide (c.row.size ≠ 0) && (decide (c.row.size ≤ 16) && (nameOk c.fam && (decide (c.qual.size ≤ 12) && (decide (0 ≤ c.time) && (decide (c.time ≤ 1099511627776) && kindOk c)))))

/-- The bounds of a cell's numbers and texts. -/
structure Cell.fits (c : Cell) : Prop where
  row : c.row.size ≤ 140737488351232
  fam : c.fam.size ≤ 140737488351232
  qual : c.qual.size ≤ 140737488351232
  vs : c.vs.size ≤ 140737488351232
  time : isInt c.time
  kind : isInt c.kind
  vk : isInt c.vk
  vn : isInt c.vn

attribute [local go_sem high] eqVal

set_option maxHeartbeats 4000000 in
theorem right_calls (c : Cell) (w : World) (hc : c.fits) (hT : Lib.Utf8Tabs 0 1 w) :
    Calls Tryd.prog 23 #[c.v] w fun e w' => e = .returned (.bool c.ok) ∧ Below w.heap.size w w' := by
  obtain ⟨row, fam, qual, time, kind, vk, vn, vs⟩ := c
  obtain ⟨hrow, hfam, hqual, hvs, htime, hkind, hvk, hvn⟩ := hc
  simp only at hrow hfam hqual hvs htime hkind hvk hvn
  have hB : Below w.heap.size w (w.alloc (.cells (Cell.mk row fam qual time kind vk vn vs).cells 31)) := (Below.refl _ _).alloc (Nat.le_refl _) _
  have HT := Lib.hid (tabs_below hT hB)
  clear hT
  by_cases h1 : row.size = 0
  · obtain ⟨s1, s2⟩ := str_nil h1
    have H := Lib.hid h1
    clear h1
    go_enter Tryd.func23, Tryd.ntmps23
    go_wp2
    go_ret
    exact ⟨ret_bool (by simp [Cell.ok, H.out]), hB⟩
  obtain ⟨s1, s2⟩ := str_ne h1
  by_cases h2 : row.size ≤ 16
  case neg =>
    have h2' : ¬ (row.size : Int) ≤ 16 := by omega
    go_enter Tryd.func23, Tryd.ntmps23
    go_wp2
    go_ret
    exact ⟨ret_bool (by simp only [Cell.ok, decide_eq_false h2, Bool.false_and, Bool.and_false]), hB⟩
  have h2' : (row.size : Int) ≤ 16 := by omega
  have hname := Lib.hid (name_calls fam (w.alloc (.cells (Cell.mk row fam qual time kind vk vn vs).cells 31)) hfam)
  cases h3 : nameOk fam with
  | false =>
    rw [h3] at hname
    have H3 := Lib.hid h3
    clear h3
    go_enter Tryd.func23, Tryd.ntmps23
    go_wp2_with (go_at_call 33; refine (hname.out).mono ?_; rintro e w' ⟨rfl, hb⟩)
    go_ret
    exact ⟨ret_bool (by simp [Cell.ok, H3.out]), hB.trans (hb.mono hB.size)⟩
  | true =>
    rw [h3] at hname
    have H3 := Lib.hid h3
    clear h3
    have hcell := (one_box w (Cell.mk row fam qual time kind vk vn vs).cells 31).2
    have Hd : (Cell.mk row fam qual time kind vk vn vs).ok = (decide (qual.size ≤ 12) && (decide (0 ≤ time) && (decide (time ≤ 1099511627776) && kindOk (Cell.mk row fam qual time kind vk vn vs)))) := by
      simp only [Cell.ok, decide_eq_true h1, decide_eq_true h2, H3.out, Bool.true_and]
    have HD := Lib.hid Hd
    clear Hd
    by_cases h4 : qual.size ≤ 12
    case neg =>
      have h4' : ¬ (qual.size : Int) ≤ 12 := by omega
      go_enter Tryd.func23, Tryd.ntmps23
      go_wp2_with (first | (go_at_call 33; refine (hname.out).mono ?_; rintro e w' ⟨rfl, hb⟩; have z0 := below_cell hb (Nat.le_refl _) (hcell 2 _ rfl); have z1 := below_cell hb (Nat.le_refl _) (hcell 3 _ rfl); have z2 := below_cell hb (Nat.le_refl _) (hcell 4 _ rfl); have z3 := below_cell hb (Nat.le_refl _) (hcell 5 _ rfl); have z4 := below_cell hb (Nat.le_refl _) (hcell 6 _ rfl); have z5 := below_cell hb (Nat.le_refl _) (hcell 7 _ rfl)))
      go_ret
      exact ⟨ret_bool (by rw [HD.out, decide_eq_false h4]; rfl), hB.trans (hb.mono hB.size)⟩
    have h4' : (qual.size : Int) ≤ 12 := by omega
    by_cases h5 : 0 ≤ time
    case neg =>
      go_enter Tryd.func23, Tryd.ntmps23
      go_wp2_with (first | (go_at_call 33; refine (hname.out).mono ?_; rintro e w' ⟨rfl, hb⟩; have z0 := below_cell hb (Nat.le_refl _) (hcell 2 _ rfl); have z1 := below_cell hb (Nat.le_refl _) (hcell 3 _ rfl); have z2 := below_cell hb (Nat.le_refl _) (hcell 4 _ rfl); have z3 := below_cell hb (Nat.le_refl _) (hcell 5 _ rfl); have z4 := below_cell hb (Nat.le_refl _) (hcell 6 _ rfl); have z5 := below_cell hb (Nat.le_refl _) (hcell 7 _ rfl)))
      go_ret
      exact ⟨ret_bool (by rw [HD.out, decide_eq_false (p := 0 ≤ time) (by omega)]; simp), hB.trans (hb.mono hB.size)⟩
    by_cases h6 : time ≤ 1099511627776
    case neg =>
      go_enter Tryd.func23, Tryd.ntmps23
      go_wp2_with (first | (go_at_call 33; refine (hname.out).mono ?_; rintro e w' ⟨rfl, hb⟩; have z0 := below_cell hb (Nat.le_refl _) (hcell 2 _ rfl); have z1 := below_cell hb (Nat.le_refl _) (hcell 3 _ rfl); have z2 := below_cell hb (Nat.le_refl _) (hcell 4 _ rfl); have z3 := below_cell hb (Nat.le_refl _) (hcell 5 _ rfl); have z4 := below_cell hb (Nat.le_refl _) (hcell 6 _ rfl); have z5 := below_cell hb (Nat.le_refl _) (hcell 7 _ rfl)))
      go_ret
      exact ⟨ret_bool (by rw [HD.out, decide_eq_false (p := time ≤ 1099511627776) (by omega)]; simp), hB.trans (hb.mono hB.size)⟩
    have HK : (Cell.mk row fam qual time kind vk vn vs).ok = kindOk (Cell.mk row fam qual time kind vk vn vs) := by rw [HD.out, decide_eq_true h4, decide_eq_true h5, decide_eq_true h6]; rfl
    have HK' := Lib.hid HK
    clear HK HD
    rename _ => HK
    by_cases k1 : kind = 1
    · subst kind
      go_enter Tryd.func23, Tryd.ntmps23
      go_wp2_with (first | (go_at_call 33; refine (hname.out).mono ?_; rintro e w' ⟨rfl, hb⟩; have z0 := below_cell hb (Nat.le_refl _) (hcell 2 _ rfl); have z1 := below_cell hb (Nat.le_refl _) (hcell 3 _ rfl); have z2 := below_cell hb (Nat.le_refl _) (hcell 4 _ rfl); have z3 := below_cell hb (Nat.le_refl _) (hcell 5 _ rfl); have z4 := below_cell hb (Nat.le_refl _) (hcell 6 _ rfl); have z5 := below_cell hb (Nat.le_refl _) (hcell 7 _ rfl)) | (go_at_call 34; refine (vright_calls vk vn vs _ hvn hvs (tabs_below HT.out hb)).mono ?_; rintro e w'' ⟨rfl, hb2⟩))
      go_ret
      exact ⟨ret_bool (by rw [HK.out, kindOk, if_pos rfl]), hB.trans ((hb.trans (hb2.mono hb.size)).mono hB.size)⟩
    have e1 : (kind == 1) = false := by simp [k1]
    by_cases k2 : kind = 2
    · subst kind
      go_enter Tryd.func23, Tryd.ntmps23
      go_wp2_with (first | (go_at_call 33; refine (hname.out).mono ?_; rintro e w' ⟨rfl, hb⟩; have z0 := below_cell hb (Nat.le_refl _) (hcell 2 _ rfl); have z1 := below_cell hb (Nat.le_refl _) (hcell 3 _ rfl); have z2 := below_cell hb (Nat.le_refl _) (hcell 4 _ rfl); have z3 := below_cell hb (Nat.le_refl _) (hcell 5 _ rfl); have z4 := below_cell hb (Nat.le_refl _) (hcell 6 _ rfl); have z5 := below_cell hb (Nat.le_refl _) (hcell 7 _ rfl)))
      go_ret
      exact ⟨ret_bool (by rw [HK.out, kindOk, if_neg (by simp), if_pos rfl]; rfl), hB.trans (hb.mono hB.size)⟩
    have e2 : (kind == 2) = false := by simp [k2]
    by_cases k3 : kind = 3
    · subst kind
      go_enter Tryd.func23, Tryd.ntmps23
      go_wp2_with (first | (go_at_call 33; refine (hname.out).mono ?_; rintro e w' ⟨rfl, hb⟩; have z0 := below_cell hb (Nat.le_refl _) (hcell 2 _ rfl); have z1 := below_cell hb (Nat.le_refl _) (hcell 3 _ rfl); have z2 := below_cell hb (Nat.le_refl _) (hcell 4 _ rfl); have z3 := below_cell hb (Nat.le_refl _) (hcell 5 _ rfl); have z4 := below_cell hb (Nat.le_refl _) (hcell 6 _ rfl); have z5 := below_cell hb (Nat.le_refl _) (hcell 7 _ rfl)))
      go_ret
      exact ⟨ret_bool (by rw [HK.out, kindOk, if_neg (by simp), if_neg (by simp), if_pos rfl]; rfl), hB.trans (hb.mono hB.size)⟩
    have e3 : (kind == 3) = false := by simp [k3]
    by_cases k4 : kind = 4
    · subst kind
      go_enter Tryd.func23, Tryd.ntmps23
      go_wp2_with (go_at_call 33; refine (hname.out).mono ?_; rintro e w' ⟨rfl, hb⟩; have z0 := below_cell hb (Nat.le_refl _) (hcell 2 _ rfl); have z1 := below_cell hb (Nat.le_refl _) (hcell 3 _ rfl); have z2 := below_cell hb (Nat.le_refl _) (hcell 4 _ rfl); have z3 := below_cell hb (Nat.le_refl _) (hcell 5 _ rfl); have z4 := below_cell hb (Nat.le_refl _) (hcell 6 _ rfl); have z5 := below_cell hb (Nat.le_refl _) (hcell 7 _ rfl))
      · go_ret
        refine ⟨ret_bool ?_, hB.trans (hb.mono hB.size)⟩
        have h : vk = 0 ∧ vn = 0 ∧ vs.toList = [] := by assumption
        rw [HK.out]
        simp [kindOk, zeroOk, h.1, h.2.1, h.2.2, str_empty]
      · go_ret
        refine ⟨ret_bool ?_, hB.trans (hb.mono hB.size)⟩
        have h : ¬ (vk = 0 ∧ vn = 0 ∧ vs.toList = []) := by assumption
        rw [HK.out]
        have h2 : zeroOk (Cell.mk row fam qual time 4 vk vn vs) = false := by
          rw [← Bool.not_eq_true]
          intro h3
          simp only [zeroOk, Bool.and_eq_true, beq_iff_eq, List.isEmpty_iff] at h3
          exact h h3
        simp [kindOk, h2]
    have e4 : (kind == 4) = false := by simp [k4]
    have k1 := Lib.hid k1
    have k2 := Lib.hid k2
    have k3 := Lib.hid k3
    have k4 := Lib.hid k4
    go_enter Tryd.func23, Tryd.ntmps23
    go_wp2_with (first | (go_at_call 33; refine (hname.out).mono ?_; rintro e w' ⟨rfl, hb⟩; have z0 := below_cell hb (Nat.le_refl _) (hcell 2 _ rfl); have z1 := below_cell hb (Nat.le_refl _) (hcell 3 _ rfl); have z2 := below_cell hb (Nat.le_refl _) (hcell 4 _ rfl); have z3 := below_cell hb (Nat.le_refl _) (hcell 5 _ rfl); have z4 := below_cell hb (Nat.le_refl _) (hcell 6 _ rfl); have z5 := below_cell hb (Nat.le_refl _) (hcell 7 _ rfl)))
    go_ret
    exact ⟨ret_bool (by rw [HK.out, kindOk, if_neg k1.out, if_neg k2.out, if_neg k3.out, if_neg k4.out]), hB.trans (hb.mono hB.size)⟩
end Go.Proofs.YtndmlldaebdnmaaDoor
