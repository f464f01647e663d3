/-
  Contracts of cmp.Compare, cmp.Or, codec.whole and codec.Order: what they compute of cells.
-/
import Derived.Test.YtndmlldaebdnmaaDoorProg
import Derived.Test.YtndmlldaebdnmaaDoorJRegion
import Derived.Test.YtndmlldaebdnmaaDoorShelf
import Derived.Lib.Hide
import Derived.Deep.LoopGhost
namespace Go.Proofs.YtndmlldaebdnmaaDoor
open Go.RowKit

/-- A cell of the program's, as plain data. -/
structure Cell where
  row : ByteArray
  fam : ByteArray
  qual : ByteArray
  time : Int
  kind : Int
  vk : Int
  vn : Int
  vs : ByteArray

abbrev Cell.v (c : Cell) : Value := .agg #[.string c.row, .string c.fam, .string c.qual, .int .i64 c.time, .int .i64 c.kind, .int .i64 c.vk, .int .i64 c.vn, .string c.vs]
abbrev Cell.cells (c : Cell) : Array Value := #[.string c.row, .string c.fam, .string c.qual, .int .i64 c.time, .int .i64 c.kind, .int .i64 c.vk, .int .i64 c.vn, .string c.vs]

def cmpI (a b : Int) : Int := if a < b then -1 else if b < a then 1 else 0
def orI : List Int → Int
  | [] => 0
  | x :: r => if x = 0 then orI r else x
def wholeI (c : Cell) : Int := if c.kind = 4 then 0 else 1
def cmpS (a b : ByteArray) : Int := Lib.compareBytes a.data.toList b.data.toList
def Cell.order (a b : Cell) : Int :=
  orI [cmpS a.row b.row, cmpS a.fam b.fam, cmpI (wholeI a) (wholeI b), cmpS a.qual b.qual, cmpI b.time a.time, cmpI b.kind a.kind]

theorem compare_calls (a b : Int) (w : World) : Calls Tryd.prog 38 #[.int .i64 a, .int .i64 b] w fun e w' => e = .returned (.int .i64 (cmpI a b)) ∧ w' = w := by
  go_enter Tryd.func38, Tryd.ntmps38
  by_cases h1 : a < b
  · go_wp2
    go_ret
    exact ⟨ret_int (by rw [cmpI, if_pos (by omega)]), rfl⟩
  · by_cases h2 : b < a
    · go_wp2
      go_ret
      exact ⟨ret_int (by rw [cmpI, if_neg (by omega), if_pos (by omega)]), rfl⟩
    · go_wp2
      go_ret
      exact ⟨ret_int (by rw [cmpI, if_neg (by omega), if_neg (by omega)]), rfl⟩

theorem whole_calls (c : Cell) (w : World) : Calls Tryd.prog 39 #[c.v] w fun e w' => e = .returned (.int .i64 (wholeI c)) ∧ Below w.heap.size w w' := by
  go_enter Tryd.func39, Tryd.ntmps39
  by_cases h1 : c.kind = 4
  · have h2 : (c.kind == 4) = true := by simp [h1]
    have h1 := Lib.hid h1
    go_wp2
    go_ret
    exact ⟨ret_int (by rw [wholeI, if_pos h1.out]), (Below.refl _ _).alloc (Nat.le_refl _) _⟩
  · have h2 : (c.kind == 4) = false := by simp [h1]
    go_wp2
    go_ret
    exact ⟨ret_int (by rw [wholeI, if_neg h1]), (Below.refl _ _).alloc (Nat.le_refl _) _⟩

theorem orI_drop (l : List Int) (k : Nat) (h : k < l.length) : orI (l.drop k) = if l[k] = 0 then orI (l.drop (k + 1)) else l[k] := by
  rw [List.drop_eq_getElem_cons h]; rfl

theorem or_calls (l : List Int) (b : Nat) (w : World) (hl : l.length ≤ 100) (hc : ∀ k (h : k < l.length), w.cell? ⟨b, k, none⟩ = some (.int .i64 l[k])) :
    Calls Tryd.prog 36 #[.slice (some ⟨b, 0, none⟩) l.length l.length] w fun e w' => e = .returned (.int .i64 (orI l)) ∧ w' = w := by
  go_enter Tryd.func36, Tryd.ntmps36
  go_wp2
  go_loop [8] (fun i => ∃ k : Nat, k ≤ l.length ∧ i = .int .i64 k ∧ orI (l.drop k) = orI l) (fun i => l.length - (intOf i).toNat)
  case atStart => exact ⟨0, Nat.zero_le _, rfl, rfl⟩
  case round =>
    obtain ⟨k, hk, rfl, hor⟩ := hrel
    have Hor := Lib.hid hor
    clear hor
    by_cases hlt : k < l.length
    · have hck := hc k hlt
      have hd := Lib.hid (orI_drop l k hlt)
      clear hc
      by_cases h0 : l[k] = 0
      · have h1 : (l[k] != 0) = false := by simp [h0]
        have H0 := Lib.hid h0
        clear h0
        go_wp2
        go_round
        case rel => exact ⟨k + 1, by omega, by go_num, by rw [← Hor.out, hd.out, if_pos H0.out]⟩
        case measure => simp [intOf]; omega
      · have h1 : (l[k] != 0) = true := by simp [h0]
        go_wp2
        go_ret
        exact ⟨ret_int (by rw [← Hor.out, hd.out, if_neg h0]), rfl⟩
    · clear hc
      go_wp2
      go_ret
      exact ⟨ret_int (by rw [← Hor.out, List.drop_eq_nil_of_le (by omega)]; rfl), rfl⟩

set_option maxRecDepth 20000 in
set_option maxHeartbeats 1000000 in
theorem order_calls (a b : Cell) (w : World) : Calls Tryd.prog 25 #[a.v, b.v] w fun e w' => e = .returned (.int .i64 (a.order b)) ∧ Below w.heap.size w w' := by
  go_enter Tryd.func25, Tryd.ntmps25
  go_wp2
  obtain ⟨hB, ca, cb⟩ := two_boxes w a.cells b.cells 31 31
  generalize hW : (w.alloc (.cells a.cells 31)).alloc (.cells b.cells 31) = W at *
  clear hW
  have a0 := later_cell (ca 0 _ rfl)
  have a1 := later_cell (ca 1 _ rfl)
  have a2 := later_cell (ca 2 _ rfl)
  have a3 := later_cell (ca 3 _ rfl)
  have a4 := later_cell (ca 4 _ rfl)
  have a5 := later_cell (ca 5 _ rfl)
  have a6 := later_cell (ca 6 _ rfl)
  have a7 := later_cell (ca 7 _ rfl)
  have b0 := later_cell (cb 0 _ rfl)
  have b1 := later_cell (cb 1 _ rfl)
  have b2 := later_cell (cb 2 _ rfl)
  have b3 := later_cell (cb 3 _ rfl)
  have b4 := later_cell (cb 4 _ rfl)
  have b5 := later_cell (cb 5 _ rfl)
  have b6 := later_cell (cb 6 _ rfl)
  have b7 := later_cell (cb 7 _ rfl)
  clear ca cb
  refine wp_region_later_tail 30 (by kernel_rfl) (by kernel_rfl) ?_
  simp only [List.take_succ_cons, List.take_zero, List.drop_succ_cons, List.drop_zero]
  repeat (go_big_quiet_step ((first
    | (go_at_call 37; exact calls_later_same (Tryd.strings_Compare _ _ _))
    | (go_at_call 39; first | exact calls_later (whole_calls a _) | exact calls_later (whole_calls b _))
    | (go_at_call 38; exact calls_later_same (compare_calls _ _ _)))))
  refine wpQuiet_nil ?_
  intro W1 hW1
  have hB1 : Below w.heap.size w W1 := by
    obtain ⟨X, rfl⟩ := hW1
    exact hB.trans ((later_below W X).mono hB.size)
  clear hW1 a0 a1 a2 a3 a4 a5 a6 a7 b0 b1 b2 b3 b4 b5 b6 b7 hB
  go_wp2_with (go_at_call 36; refine (or_calls [cmpS a.row b.row, cmpS a.fam b.fam, cmpI (wholeI a) (wholeI b), cmpS a.qual b.qual, cmpI b.time a.time, cmpI b.kind a.kind] W1.heap.size _ (by simp) (by
    intro k hk; rw [World.cell?_alloc_new]
    match k, hk with
    | 0, _ => rfl
    | 1, _ => rfl
    | 2, _ => rfl
    | 3, _ => rfl
    | 4, _ => rfl
    | 5, _ => rfl
    | k + 6, h => exact absurd h (by simp))).mono ?_; rintro e w' ⟨rfl, rfl⟩)
  go_ret
  exact ⟨rfl, hB1.alloc (by have := hB1.size; omega) _⟩

end Go.Proofs.YtndmlldaebdnmaaDoor
