/-
  codec.need, (*reader).byte: a panic with bad tells that there is something else.
-/
import Derived.Test.YtonghiaocpenaaaGreatDoorKVDec
import Derived.WalkSmall
namespace Go.Proofs.YtonghiaocpenaaaGreatDoor
open Go.RowKit

/-- What a reader panics with. -/
def badC : List PanicEntry := [{ v := .iface 69 (.agg #[]), recovered := false }]
theorem need_ok (w : World) : Calls Tryz.prog 62 #[.bool true] w fun e w' => e = .returned (.tuple #[]) ∧ w' = w := by
  go_enter Tryz.func62, Tryz.ntmps62
  go_wp2
  go_end0
  exact ⟨rfl, rfl⟩
theorem need_bad (w : World) : Calls Tryz.prog 62 #[.bool false] w fun e w' => e = .panicked badC ∧ w' = w := by
  go_enter Tryz.func62, Tryz.ntmps62
  go_wp2
  exact ⟨rfl, rfl, rfl⟩

/-- A reader at block rb has xs left. -/
def RdrAt (lim rb : Nat) (xs : List Int) (w : World) : Prop :=
  ∃ A n cap, w.cell? ⟨rb, 0, none⟩ = some (.slice A n cap) ∧ w.frozen? ⟨rb, 0, none⟩ = false ∧ RdB w A n xs ∧ Bytes xs ∧ n ≤ cap ∧ cap ≤ maxLen ∧ (A = none ∨ ∃ b o, A = some ⟨b, o, none⟩ ∧ b < lim) ∧ lim ≤ rb ∧ n ≤ 1000000
def ByteOut (lim rb : Nat) (xs : List Int) (w : World) (e : Ending) (w' : World) : Prop :=
  (∃ x r, xs = x :: r ∧ e = .returned (.int .u8 x) ∧ RdrAt lim rb r w' ∧ Only (fun k => k = rb) w w') ∨ (xs = [] ∧ e = .panicked badC ∧ w' = w)

set_option maxHeartbeats 1000000 in
set_option maxRecDepth 20000 in
theorem byte_calls (lim rb : Nat) (xs : List Int) (w : World) (h : RdrAt lim rb xs w) : Calls Tryz.prog 64 #[.pointer (some ⟨rb, 0, none⟩)] w (ByteOut lim rb xs w) := by
  obtain ⟨A, n, cap, hc, hf, hx, hb, hcap, hcm, hA, hlim, hn⟩ := h
  have HN := fun w => Lib.hid (need_ok w)
  have HNB := fun w => Lib.hid (need_bad w)
  cases xs with
  | nil =>
    obtain rfl : n = 0 := hx.len
    clear hx hb hA
    go_enter Tryz.func64, Tryz.ntmps64
    go_wp2_with fail
    refine (HNB _).out.mono ?_
    rintro e w ⟨rfl, rfl⟩
    exact ⟨rfl, .inr ⟨rfl, rfl, rfl⟩⟩
  | cons x r =>
    have hlen := hx.len
    have hn1 : 1 ≤ n := by rw [hlen]; simp
    have hrlt := lt_of_cell hc
    rcases hA with rfl | ⟨b, o, rfl, hbl⟩
    · obtain ⟨b, off, h, _⟩ := hx.at_ 0 x rfl
      cases h
    · have hcell : w.cell? ⟨b, o, none⟩ = some (.int .u8 x) := rdb_cell hx (i := 0) rfl
      have hn2 : (0 : Int) < (n : Int) := by omega
      have hn3 : 0 < n := by omega
      have hn4 : (1 : Int) ≤ (n : Int) := by omega
      have hc1 : (1 : Int) ≤ (cap : Int) := by omega
      have hbr : Hid (Bytes r) := fun x hx => hb x (List.mem_cons_of_mem _ hx)
      have HX := Lib.hid hx
      have HL := Lib.hid hlen
      clear hx hb hlen
      by_cases hce : cap = 1
      · go_enter Tryz.func64, Tryz.ntmps64
        go_wp2_with fail
        refine (HN _).out.mono ?_
        rintro e w ⟨rfl, rfl⟩
        go_wp2
        go_ret
        refine .inl ⟨x, r, rfl, rfl, ⟨some ⟨b, o, none⟩, n - 1, 0, World.cell?_setCell_same _ _ _ hc, by rw [World.frozen?_setCell]; exact hf, ⟨?_, fun j y hj => ?_⟩, hbr, by omega, by omega, .inr ⟨b, o, rfl, hbl⟩, hlim, by omega⟩, ?_⟩
        · have := HL.out
          rw [List.length_cons] at this; omega
        · exfalso
          have h1 := (List.getElem?_eq_some_iff.1 hj).1
          have := HL.out
          rw [List.length_cons] at this; omega
        · exact ⟨rfl, rfl, rfl, by simp, fun k _ hk => heap_setCell_other _ ⟨rb, 0, none⟩ k _ hk⟩
      · have hce' : ¬ (cap : Int) = 1 := by omega
        go_enter Tryz.func64, Tryz.ntmps64
        go_wp2_with fail
        refine (HN _).out.mono ?_
        rintro e w ⟨rfl, rfl⟩
        go_wp2
        go_ret
        have ho : Only (fun k => k = rb) w (w.setCell ⟨rb, 0, none⟩ (.slice (some ⟨b, o + 1, none⟩) (n - 1) (cap - 1))) := ⟨rfl, rfl, rfl, by simp, fun k _ hk => heap_setCell_other _ ⟨rb, 0, none⟩ k _ hk⟩
        exact .inl ⟨x, r, rfl, rfl, ⟨some ⟨b, o + 1, none⟩, n - 1, cap - 1, World.cell?_setCell_same _ _ _ hc, by rw [World.frozen?_setCell]; exact hf, (rdb_drop HX.out 1).only ho (fun a ha => by injection ha with ha; subst ha; show ¬ b = rb; omega), hbr, by omega, by unfold maxLen at hcm ⊢; omega, .inr ⟨b, o + 1, rfl, hbl⟩, hlim, by omega⟩, ho⟩
end Go.Proofs.YtonghiaocpenaaaGreatDoor
