/-
  The law package's small functions (merge): put, great; joistref08.Fine.
-/
import Derived.Test.YtmabmnkdigdaiaaDoorJRMerge
namespace Go.Proofs.YtmabmnkdigdaiaaDoor
open Go.RowKit

def putC (row : ByteArray) (n : Int) : Cell := ⟨row, ⟨#[102]⟩, ⟨#[113]⟩, 1, 1, 1, n, ⟨#[]⟩⟩
set_option maxHeartbeats 1000000 in
theorem put_calls (row : ByteArray) (n : Int) (w : World) : Calls Tryd.prog 29 #[.string row, .int .i64 n] w fun e w' => e = .returned (putC row n).v ∧ Below w.heap.size w w' := by
  go_enter Tryd.func29, Tryd.ntmps29
  go_wp2
  refine bodyPost_ret (by simp [results, Tryd.results29, go_sem]; try rfl) rfl ?_
  exact ⟨rfl, (Below.refl _ _).alloc (Nat.le_refl _) _⟩

/-- Are runs greater than are looked at? -/
def greatC (rows : List Row) : Bool := decide (12 < rows.length) || rows.any fun r => longC r.xs 60
set_option maxHeartbeats 2000000 in
theorem great_calls (A : Option Addr) (n ca : Nat) (rows : List Row) (w : World) (hx : Rd 1 Row.l w A n rows) (ho : ∀ r ∈ rows, RdC w r.A r.n r.xs ∧ r.n ≤ 140737488351232) (hn : n ≤ 140737488351232) :
    Calls Tryd.prog 9 #[.slice A n ca] w fun e w' => e = .returned (.bool (greatC rows)) ∧ w' = w := by
  have hxl := Lib.hid hx.len
  have HX := Lib.hid hx
  have HO := Lib.hid ho
  clear hx ho
  by_cases h0 : 12 < n
  · have h0' : (12 : Int) < (n : Int) := by omega
    have H0 := Lib.hid h0
    clear h0
    go_enter Tryd.func9, Tryd.ntmps9
    go_wp2
    go_ret
    exact ⟨ret_bool (by rw [greatC, decide_eq_true (p := 12 < rows.length) (by rw [← hxl.out]; exact H0.out)]; rfl), rfl⟩
  have h0' : ¬ (12 : Int) < (n : Int) := by omega
  go_enter Tryd.func9, Tryd.ntmps9
  go_wp2
  go_loop [3] (fun i => ∃ k : Nat, k ≤ n ∧ i = .int .i64 k ∧ Hid ((rows.take k).any (fun r => longC r.xs 60) = false)) (fun i => n - (intOf i).toNat)
  case atStart => exact ⟨0, Nat.zero_le _, rfl, rfl⟩
  case round =>
    obtain ⟨k, hk, rfl, hall⟩ := hrel
    by_cases hlt : k < n
    · obtain ⟨r, b, off, hr, rfl, _, hrc⟩ := HX.out.get k hlt
      have c0 := hrc 0 _ rfl
      simp only [Nat.mul_one, Nat.add_zero] at c0
      have hlong := Lib.hid (long_calls r.A r.n r.cap r.xs 60 w (HO.out r (List.mem_of_getElem? hr)).1 (HO.out r (List.mem_of_getElem? hr)).2)
      have HR := Lib.hid hr
      clear hrc hr
      cases hl : longC r.xs 60 with
      | true =>
        rw [hl] at hlong
        have hl := Lib.hid hl
        go_wp2_with (go_at_call 10; refine hlong.out.mono ?_; clear hlong; rintro e w1 ⟨rfl, rfl⟩)
        go_ret
        exact ⟨ret_bool (by rw [greatC, List.any_eq_true.2 ⟨r, List.mem_of_getElem? HR.out, hl.out⟩, Bool.or_true]), rfl⟩
      | false =>
        rw [hl] at hlong
        have hnew : Hid ((rows.take (k + 1)).any (fun r => longC r.xs 60) = false) := by
          unfold Hid
          rw [List.take_add_one, HR.out, List.any_append, hall.out]
          simp [hl]
        clear hl
        go_wp2_with (go_at_call 10; refine hlong.out.mono ?_; clear hlong; rintro e w1 ⟨rfl, rfl⟩)
        go_round
        case rel => exact ⟨k + 1, by omega, by go_num, hnew.out⟩
        case measure => simp [intOf]; omega
    · go_wp2
      go_ret
      refine ⟨ret_bool ?_, rfl⟩
      have h2 := hall.out
      have h1 := hxl.out
      rw [List.take_of_length_le (by omega)] at h2
      rw [greatC, h2, decide_eq_false (p := 12 < rows.length) (by omega)]
      rfl
end Go.Proofs.YtmabmnkdigdaiaaDoor
