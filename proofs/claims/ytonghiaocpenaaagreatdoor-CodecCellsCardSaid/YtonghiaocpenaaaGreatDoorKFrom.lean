/-
  float.From: a float out of its bytes.
-/
import Derived.Test.YtonghiaocpenaaaGreatDoorKUnescW
namespace Go.Proofs.YtonghiaocpenaaaGreatDoor
open Go.RowKit

/-- Bytes as a number of 64 bits, the highest first. -/
def be64 (xs : List Int) : Int := xs.foldl (fun u x => u * 256 % 18446744073709551616 + x) 0
theorem be64_snoc (xs : List Int) (x : Int) : be64 (xs ++ [x]) = be64 xs * 256 % 18446744073709551616 + x := by simp [be64, List.foldl_append]
theorem be64_range (xs : List Int) (h : Bytes xs) : 0 ≤ be64 xs ∧ be64 xs < 18446744073709551616 := by
  unfold be64
  have : ∀ (l : List Int) (u : Int), (∀ x ∈ l, 0 ≤ x ∧ x < 256) → 0 ≤ u → u < 18446744073709551616 → 0 ≤ l.foldl (fun u x => u * 256 % 18446744073709551616 + x) u ∧ l.foldl (fun u x => u * 256 % 18446744073709551616 + x) u < 18446744073709551616 := by
    intro l
    induction l with
    | nil => intro u _ h0 h1; exact ⟨h0, h1⟩
    | cons x l ih =>
      intro u hl h0 h1
      obtain ⟨h2, h3⟩ := hl x (by simp)
      rw [List.foldl_cons]
      exact ih _ (fun y hy => hl y (List.mem_cons_of_mem _ hy)) (by omega) (by omega)
  exact this xs 0 h (by omega) (by omega)
theorem take_snoc1 {l : List Int} {k : Nat} {x : Int} (h : l[k]? = some x) : l.take (k + 1) = l.take k ++ [x] := by
  rw [List.take_add_one, h]; rfl
theorem or_low (u x : Int) (hx0 : 0 ≤ x) (hx1 : x < 256) : bits .or .u64 (u * 256 % 18446744073709551616) x = u * 256 % 18446744073709551616 + x :=
  bits_join .u64 64 (by decide) (fun n _ _ => by rw [IntKind.wrap_u64]; omega) 8 _ _ (by omega) (by
    have : (2 : Int) ^ 8 = 256 := by decide
    rw [this]; omega) (by omega) hx0 (by have : (2 : Int) ^ 8 = 256 := by decide
                                         omega) (by omega)
theorem or_low' (u x : Int) (hx0 : 0 ≤ x) (hx1 : x < 256) : bits .or .u64 (IntKind.u64.wrap (u * 256)) x = u * 256 % 18446744073709551616 + x := by
  rw [IntKind.wrap_u64]; exact or_low u x hx0 hx1
def unrankN (u : Int) : Int := if 9223372036854775808 ≤ u then u % 9223372036854775808 else 18446744073709551615 - u
theorem unrank_range (u : Int) (h0 : 0 ≤ u) (h1 : u < 18446744073709551616) : 0 ≤ unrankN u ∧ unrankN u < 18446744073709551616 := by
  unfold unrankN; split <;> omega
theorem unrank_calls (u : Int) (w : World) (h0 : 0 ≤ u) (h1 : u < 18446744073709551616) : Calls Tryz.prog 89 #[.int .u64 u] w fun e w' => e = .returned (.int .u64 (unrankN u)) ∧ w' = w := by
  have hn := negative_calls u w h0 h1
  by_cases hc : 9223372036854775808 ≤ u
  · rw [decide_eq_true hc] at hn
    have HN := Lib.hid hn
    have ha := andNot_u64_top u h0 h1
    have HA := Lib.hid ha
    have HE := Lib.hid (show unrankN u = u % 9223372036854775808 from if_pos hc)
    clear hn ha
    go_enter Tryz.func89, Tryz.ntmps89
    go_wp2_with (go_at_call 87; refine HN.out.mono ?_; rintro e w' ⟨rfl, rfl⟩)
    go_wp2
    go_ret
    refine ⟨?_, rfl⟩
    show Ending.returned (Value.int .u64 (bits .andNot .u64 u 9223372036854775808)) = _
    rw [HA.out, HE.out]
  · rw [decide_eq_false hc] at hn
    have HN := Lib.hid hn
    have HE := Lib.hid (show unrankN u = 18446744073709551615 - u from if_neg hc)
    clear hn
    go_enter Tryz.func89, Tryz.ntmps89
    go_wp2_with (go_at_call 87; refine HN.out.mono ?_; rintro e w' ⟨rfl, rfl⟩)
    go_wp2
    go_ret
    refine ⟨?_, rfl⟩
    show Ending.returned (Value.int .u64 (bits .xor .u64 IntKind.u64.max u)) = _
    rw [xor_max u h0 h1, HE.out]
theorem number_calls (u : Int) (w : World) : Calls Tryz.prog 90 #[.int .u64 u] w fun e w' => e = .returned (.int .i64 (IntKind.i64.wrap u)) ∧ w' = w := by
  go_enter Tryz.func90, Tryz.ntmps90
  go_wp2
  go_ret
  refine ⟨?_, rfl⟩
  show Ending.returned (Value.int .i64 (wrap64 u)) = _
  rw [IntKind.wrap_i64]; unfold wrap64; rfl
/-- The float of bytes. -/
def fromV (xs : List Int) : Option Int := if xs.length = 8 ∧ floatOk (IntKind.i64.wrap (unrankN (be64 xs))) = true then some (IntKind.i64.wrap (unrankN (be64 xs))) else none
def FromOut (xs : List Int) (w : World) (e : Ending) (w' : World) : Prop :=
  Below w.heap.size w w' ∧ ((∃ n, fromV xs = some n ∧ e = .returned (.tuple #[.int .i64 n, .bool true])) ∨ (fromV xs = none ∧ e = .returned (.tuple #[.int .i64 0, .bool false])))

set_option maxHeartbeats 1000000 in
theorem from_calls (b off n cap : Nat) (xs : List Int) (w : World) (hx : RdB w (some ⟨b, off, none⟩) n xs) (hb : Bytes xs) :
    Calls Tryz.prog 84 #[.slice (some ⟨b, off, none⟩) n cap] w (FromOut xs w) := by
  by_cases h8 : n = 8
  · subst h8
    have HX := Lib.hid hx
    have HBY := Lib.hid hb
    clear hx hb
    go_enter Tryz.func84, Tryz.ntmps84
    go_wp2_with fail
    go_loopg [4, 13] 8 (fun gk uv iv wr => ∃ (k : Nat) (u : Int), uv = .int .u64 u ∧ iv = .int .i64 k ∧ k ≤ 8 ∧ gk = 8 - k ∧ 0 ≤ u ∧ u < 18446744073709551616 ∧ Hid (u = be64 (xs.take k)) ∧ wr = w)
    case atStart => exact ⟨0, 0, rfl, rfl, by omega, rfl, by omega, by omega, rfl, rfl⟩
    case round =>
      obtain ⟨k, u, rfl, rfl, hk, rfl, hu0, hu1, hu, rfl⟩ := hrel
      by_cases hlt : k < 8
      · obtain ⟨x, hxx⟩ : ∃ x, xs[k]? = some x := ⟨_, List.getElem?_eq_getElem (by rw [← HX.out.len]; exact hlt)⟩
        have hcell := rdb_cell HX.out hxx
        obtain ⟨x0, x1⟩ := HBY.out.at hxx
        have HXX := Lib.hid hxx
        have hor := Lib.hid (or_low' u x x0 x1)
        have hk1 : (k : Int) < 8 := by omega
        clear hxx
        go_wp2_with fail
        go_roundg (8 - (k + 1))
        case measure => omega
        case rel => exact ⟨k + 1, u * 256 % 18446744073709551616 + x, by rw [hor.out], by go_num, by omega, rfl, by omega, by omega, by unfold Hid; rw [take_snoc1 HXX.out, be64_snoc, hu.out], rfl⟩
      · obtain rfl : k = 8 := by omega
        have hfull : u = be64 xs := by rw [hu.out, List.take_of_length_le (by rw [← HX.out.len]; omega)]
        have hur := Lib.hid (unrank_calls u wr hu0 hu1)
        have hnr := fun w => Lib.hid (number_calls (unrankN u) w)
        obtain ⟨v0, v1⟩ := unrank_range u hu0 hu1
        have hwi : -9223372036854775808 ≤ IntKind.i64.wrap (unrankN u) ∧ IntKind.i64.wrap (unrankN u) < 9223372036854775808 := by rw [IntKind.wrap_i64]; omega
        have hfr := fun w => Lib.hid (fright_calls (IntKind.i64.wrap (unrankN u)) w hwi.1 hwi.2)
        have hfv : fromV xs = if floatOk (IntKind.i64.wrap (unrankN u)) = true then some (IntKind.i64.wrap (unrankN u)) else none := by
          unfold fromV
          rw [← hfull, ← HX.out.len]
          simp
        have HFV := Lib.hid hfv
        clear hfull hfv hu hwi
        generalize IntKind.i64.wrap (unrankN u) = v at *
        go_wp2_with fail
        refine hur.out.mono ?_
        rintro e wr ⟨rfl, rfl⟩
        go_wp2_with fail
        refine (hnr _).out.mono ?_
        rintro e wr ⟨rfl, rfl⟩
        go_wp2_with fail
        refine (hfr _).out.mono ?_
        rintro e wr ⟨rfl, rfl⟩
        cases hfo : floatOk v with
        | true =>
          rw [hfo] at HFV
          go_wp2
          go_ret2
          exact ⟨Below.refl _ _, .inl ⟨v, HFV.out, rfl⟩⟩
        | false =>
          rw [hfo] at HFV
          go_wp2
          go_ret2
          exact ⟨Below.refl _ _, .inr ⟨HFV.out, rfl⟩⟩
  · have hno : fromV xs = none := by
      unfold fromV
      rw [← hx.len, if_neg (fun h => h8 h.1)]
    have HN := Lib.hid hno
    have h8' : ¬ (n : Int) = 8 := by omega
    clear hno
    go_enter Tryz.func84, Tryz.ntmps84
    go_wp2
    go_ret2
    exact ⟨Below.refl _ _, .inr ⟨HN.out, rfl⟩⟩
end Go.Proofs.YtonghiaocpenaaaGreatDoor
