/-
  The law package's alive (cell): a closed case.
-/
import Derived.Test.YtndmlldaebdnmaaDoorWValue
import Derived.Deep.RegionLaw
namespace Go.RowKit
section
variable {α : Type}
theorem rd_block {sz : Nat} {enc : α → List Value} {w : World} {b : Nat} {cs : Array Value} {T : TypeId} {f : Nat × Nat} (h : w.heap[b]? = some (.cells cs T f)) (xs : List α) (hx : cs.toList = xs.flatMap enc) (hsz : ∀ x, (enc x).length = sz) :
    Rd sz enc w (some ⟨b, 0, none⟩) xs.length xs :=
  ⟨rfl, fun i c hc => by
    have hb : b < w.heap.size := by
      rcases Nat.lt_or_ge b w.heap.size with hh | hh
      · exact hh
      · rw [Array.getElem?_eq_none hh] at h; cases h
    refine ⟨b, 0, rfl, hb, fun j v hv => ?_⟩
    have := flat_at hsz xs i j c v hc hv
    rw [← hx, Array.getElem?_toList] at this
    simp [World.cell?, h, this]⟩
end
end Go.RowKit
namespace Go.Proofs.YtndmlldaebdnmaaDoor
open Go.RowKit

abbrev Cell.zero : Cell := ⟨⟨#[]⟩, ⟨#[]⟩, ⟨#[]⟩, 0, 0, 0, 0, ⟨#[]⟩⟩
theorem copy_calls (A : Option Addr) (n ca : Nat) (l : List Cell) (w : World) (hx : RdC w A n l) (hA : A = none → ca = 0) (hn : n ≤ 1000000) :
    Calls Tryd.prog 14 #[.slice A n ca] w (OutC l w) := by
  obtain ⟨i0, hi, hz0, hz1, hz2⟩ := info_parts infoCell
  have hb : Below w.heap.size w (w.alloc (.cells #[] 31)) := (Below.refl _ _).alloc (Nat.le_refl _) _
  have hown := Own.lit 31 8 Cell.l w w.heap.size (Nat.le_refl _)
  have HX := Lib.hid (hx.below hb)
  clear hx
  go_enter Tryd.func14, Tryd.ntmps14
  go_wp2_with (at_builtin; refine append_all rfl (.tmp 5) (.tmp 6) 22 rfl i0 _ 96 Tryd.underlying22 hi hz0 hz1 hz2 rfl (by omega) Cell.l_len Cell.l_one rfl hown rfl hA HX.out (by omega) (by unfold maxLen; omega) (by simp) ?_; intro A' cap' w' h1 h2 h3 h4)
  go_ret
  exact ⟨A', 0 + n, cap', by simp, by simpa using h1, hb.trans ((h2.below (B := w.heap.size) (by simp) (fun i hi => by injection hi with hi; injection hi with hi; omega)))⟩

def alP (t : Int) : Cell := ⟨⟨#[114]⟩, ⟨#[102]⟩, ⟨#[113]⟩, t, 1, 1, t, ⟨#[]⟩⟩
def alG : Cell := ⟨⟨#[114]⟩, ⟨#[102]⟩, ⟨#[113]⟩, 3, 3, 0, 0, ⟨#[]⟩⟩
def alL : List Cell := [alP 3, alP 4, alG, alP 5]
theorem al_sort : sortL alL = [alP 5, alP 4, alG, alP 3] := by kernel_rfl
theorem al_seen1 : seenL 1 0 9 alL = [alP 5] := by kernel_rfl
theorem al_seen2 : (seenL 8 0 9 alL).length = 2 := by kernel_rfl
theorem al_seen3 : (seenL 8 3 8 alL).length = 0 := by kernel_rfl
theorem al_seen4 : (seenL 1 0 9 (sortL alL)).head? = some (alP 5) := by kernel_rfl
theorem isInt_small {n : Int} (h0 : 0 ≤ n) (h1 : n ≤ 1000) : isInt n := by unfold isInt; omega
theorem al_fits : ∀ c ∈ alL, c.fits := by
  have h : ∀ t : Int, 0 ≤ t → t ≤ 1000 → (alP t).fits := fun t h0 h1 => ⟨show (1 : Nat) ≤ _ by decide, show (1 : Nat) ≤ _ by decide, show (1 : Nat) ≤ _ by decide, show (0 : Nat) ≤ _ by decide, isInt_small h0 h1, isInt_small (n := 1) (by decide) (by decide), isInt_small (n := 1) (by decide) (by decide), isInt_small h0 h1⟩
  intro c hc
  simp only [alL, List.mem_cons, List.not_mem_nil, or_false] at hc
  rcases hc with rfl | rfl | rfl | rfl
  · exact h 3 (by decide) (by decide)
  · exact h 4 (by decide) (by decide)
  · exact ⟨show (1 : Nat) ≤ _ by decide, show (1 : Nat) ≤ _ by decide, show (1 : Nat) ≤ _ by decide, show (0 : Nat) ≤ _ by decide, isInt_small (n := 3) (by decide) (by decide), isInt_small (n := 3) (by decide) (by decide), isInt_small (n := 0) (by decide) (by decide), isInt_small (n := 0) (by decide) (by decide)⟩
  · exact h 5 (by decide) (by decide)
theorem al_rows : ∀ c ∈ alL, c.row = rB := by
  intro c hc
  simp only [alL, List.mem_cons, List.not_mem_nil, or_false] at hc
  rcases hc with rfl | rfl | rfl | rfl <;> rfl

set_option maxHeartbeats 1000000 in
theorem put_calls (n : Int) (w : World) : Calls Tryd.prog 19 #[.int .i64 n] w fun e w' => e = .returned (alP n).v ∧ Below w.heap.size w w' := by
  go_enter Tryd.func19, Tryd.ntmps19
  go_wp2
  refine bodyPost_ret (by simp [results, Tryd.results19, go_sem]; try rfl) rfl ?_
  exact ⟨rfl, (Below.refl _ _).alloc (Nat.le_refl _) _⟩
end Go.Proofs.YtndmlldaebdnmaaDoor
