/-
  cell.Value where the first cell that is seen is the column's; cell.Needed; joistlaw06.put, joistlaw06.long.
-/
import Derived.Test.YtndmlldaebdnmaaDoorWRows
import Derived.Outline
namespace Go.Proofs.YtndmlldaebdnmaaDoor
open Go.RowKit

theorem seen_all (A : Option Addr) (n ca : Nat) (xs : List Cell) (v life now : Int) (w : World) (hx : RdC w A n xs) (hn : n ≤ 1000) (hf : ∀ c ∈ xs, c.fits) (hT : Lib.Utf8Tabs 0 1 w) (hnow : life = 0 ∨ (-1152921504606846976 ≤ now ∧ now ≤ 1152921504606846976)) :
    Calls Tryd.prog 16 #[.slice A n ca, .int .i64 v, .int .i64 life, .int .i64 now] w (OutC (seenL v life now xs) w) := seen_calls sortIs A n ca xs v life now w hx hn hf hT hnow

set_option maxHeartbeats 1000000 in
theorem needed_calls (A : Option Addr) (n ca : Nat) (xs : List Cell) (v life now : Int) (w : World) (hx : RdC w A n xs) (hn : n ≤ 1000) (hf : ∀ c ∈ xs, c.fits) (hT : Lib.Utf8Tabs 0 1 w) (hnow : life = 0 ∨ (-1152921504606846976 ≤ now ∧ now ≤ 1152921504606846976)) :
    Calls Tryd.prog 17 #[.slice A n ca, .int .i64 v, .int .i64 life, .int .i64 now] w (OutC (seenL v life now xs) w) := by
  have h := Lib.hid (seen_all A n ca xs v life now w hx hn hf hT hnow)
  clear hx hf hT hnow
  go_enter Tryd.func17, Tryd.ntmps17
  go_wp2_with fail
  refine h.out.mono ?_
  rintro e w' ⟨A, n, cap, rfl, h1, h2⟩
  have H1 := Lib.hid h1
  have H2 := Lib.hid h2
  clear h1 h2 h
  go_wp2
  go_ret
  exact ⟨A, n, cap, rfl, H1.out, H2.out⟩

def ValOut (c : Cell) (w : World) (e : Ending) (w' : World) : Prop := e = .returned (.tuple #[.agg #[.int .i64 c.vk, .int .i64 c.vn, .string c.vs], .bool true]) ∧ Below w.heap.size w w'
theorem own_lt {α : Type} {E : TypeId} {sz : Nat} {enc : α → List Value} {w : World} {base n cap : Nat} {A : Option Addr} {xs : List α} (h : Own E sz enc w base A n cap xs) (hn : 0 < n) : ∃ g, A = some ⟨g, 0, none⟩ ∧ base ≤ g ∧ g < w.heap.size := by
  rcases h.shape with ⟨_, h2⟩ | h2
  · exfalso
    have := h.1
    rw [h2] at this
    simp at this
    omega
  · exact h2
set_option maxHeartbeats 2000000 in
set_option maxRecDepth 20000 in
theorem value_calls (A : Option Addr) (n ca : Nat) (xs : List Cell) (fam qual : ByteArray) (v life now : Int) (w : World) (hx : RdC w A n xs) (hn : n ≤ 1000) (hf : ∀ c ∈ xs, c.fits) (hT : Lib.Utf8Tabs 0 1 w) (hnow : life = 0 ∨ (-1152921504606846976 ≤ now ∧ now ≤ 1152921504606846976))
    (c d : Cell) (h1 : (seenL v life now (sortL xs)).head? = some c) (h2 : (sortL xs).head? = some d) (hr : (c.row.toList == d.row.toList) = true) (hfam : (c.fam.toList == fam.toList) = true) (hqual : (c.qual.toList == qual.toList) = true) :
    Calls Tryd.prog 20 #[.slice A n ca, .string fam, .string qual, .int .i64 v, .int .i64 life, .int .i64 now] w (ValOut c w) := by
  have HX := Lib.hid hx
  have HF := Lib.hid hf
  have HT := Lib.hid hT
  have HL := Lib.hid hx.len
  have HNOW := Lib.hid hnow
  have H1 := Lib.hid h1
  have H2 := Lib.hid h2
  have HE1 := Lib.hid hr
  have HE2 := Lib.hid hfam
  have HE3 := Lib.hid hqual
  clear hx hf hT hnow h1 h2 hr hfam hqual
  obtain ⟨W1, hW1⟩ : ∃ W1, W1 = w.alloc (.cells #[.int .i64 0, .int .i64 0, .string ⟨#[]⟩] 29) := ⟨_, rfl⟩
  have hb1 : Below w.heap.size w W1 := by rw [hW1]; exact (Below.refl _ _).alloc (Nat.le_refl _) _
  have hs1 : w.heap.size < W1.heap.size := by rw [hW1]; simp
  have hc1 : W1.heap[w.heap.size]? = some (.cells #[.int .i64 0, .int .i64 0, .string ⟨#[]⟩] 29) := by rw [hW1, heap_alloc_new]
  have hsort := Lib.hid (sort_calls A n ca xs W1 (HX.out.below hb1) hn HF.out (tabs_below HT.out hb1))
  have HW1 := Lib.hid hW1
  have HB1 := Lib.hid hb1
  have HC1 := Lib.hid hc1
  clear hW1 hb1 hc1
  go_enter Tryd.func20, Tryd.ntmps20
  go_wp2_with fail
  rw [← HW1.out]
  refine hsort.out.mono ?_
  rintro e w2 ⟨A2, n2, c2, rfl, hown2, hb2⟩
  have hlen2 : n2 ≤ 1000 := by
    have e1 := hown2.1
    have e2 := sortL_len xs
    have e3 := HL.out
    omega
  have hB2 := HB1.out.trans (hb2.mono HB1.out.size)
  have hseen := Lib.hid (seen_all A2 n2 c2 (sortL xs) v life now w2 (hown2.rd Cell.l_len) hlen2 (fun x hx => HF.out x (sortL_sub hx)) (tabs_below HT.out hB2) HNOW.out)
  have HO2 := Lib.hid hown2
  have HB2 := Lib.hid hb2
  have HBW2 := Lib.hid hB2
  clear hown2 hb2 hB2 hsort
  go_wp2_with fail
  refine hseen.out.mono ?_
  rintro e w3 ⟨A3, n3, c3, rfl, hown3, hb3⟩
  have hn3 : 0 < n3 := by
    have e1 := H1.out
    rw [hown3.1]
    cases h : seenL v life now (sortL xs) with
    | nil => rw [h] at e1; cases e1
    | cons a l => simp
  have hn2 : 0 < n2 := by
    have e1 := H2.out
    rw [HO2.out.1]
    cases h : sortL xs with
    | nil => rw [h] at e1; cases e1
    | cons a l => simp
  obtain ⟨g3, rfl, q1, q2⟩ := own_lt hown3 hn3
  obtain ⟨g2, rfl, q3, q4⟩ := own_lt HO2.out hn2
  obtain ⟨c', hc', hc8⟩ := rd8z (hown3.rd Cell.l_len) 0 hn3
  have ecc : c' = c := by
    have e1 := H1.out
    rw [List.head?_eq_getElem?, hc'] at e1
    exact Option.some.inj e1
  subst ecc
  obtain ⟨d', hd', hd8⟩ := rd8z ((HO2.out.below hb3).rd Cell.l_len) 0 hn2
  have edd : d' = d := by
    have e1 := H2.out
    rw [List.head?_eq_getElem?, hd'] at e1
    exact Option.some.inj e1
  subst edd
  obtain ⟨hB4, _⟩ := one_box w3 c'.cells 31
  have hblk : w3.heap[w.heap.size]? = some (.cells #[.int .i64 0, .int .i64 0, .string ⟨#[]⟩] 29) := by
    have := HB2.out.size
    rw [hb3.block _ (by omega), HB2.out.block _ hs1, HC1.out]
  have HBK := Lib.hid hblk
  have HBW3 := Lib.hid (HBW2.out.trans (hb3.mono HBW2.out.size))
  simp only [Nat.zero_mul] at hc8 hd8
  obtain ⟨k0, k1, k2, k3, k4, k5, k6, k7⟩ := hc8.get
  have HD8 := Lib.hid hd8
  clear hc' hd' hown3 hb3 hc8 hd8 HO2 hblk hseen q1 q3
  go_wp2_with fail
  refine wp_loop_rounds 1 ?_; rw [rounds_succ]
  go_wp2_with fail
  obtain ⟨hB4, cb4⟩ := one_box w3 c'.cells 31
  obtain ⟨W4, hW4⟩ : ∃ W4, W4 = w3.alloc (.cells c'.cells 31) := ⟨_, rfl⟩
  rw [← hW4] at hB4 cb4
  have hC4 : At8 W4 w3.heap.size 0 c' := fun j v hv => by rw [Nat.zero_add]; exact cb4 j v (by simpa [Cell.l] using hv)
  have hD4 : At8 W4 g2 0 d' := HD8.out.below hB4
  obtain ⟨b0, b1, b2, b3, b4, b5, b6, b7⟩ := hC4.get
  obtain ⟨l0, l1, l2, l3, l4, l5, l6, l7⟩ := hD4.get
  have x1 := HE1.out
  have x2 := HE2.out
  have x3 := HE3.out
  have HBW4 := Lib.hid (HBW3.out.trans (hB4.mono HBW3.out.size))
  have HC4 := Lib.hid hC4
  have hlt3 : w.heap.size < w3.heap.size := by have := HBK.out; rcases Nat.lt_or_ge w.heap.size w3.heap.size with h | h; exact h; rw [Array.getElem?_eq_none h] at this; cases this
  have hBK4 : W4.heap[w.heap.size]? = some (.cells #[.int .i64 0, .int .i64 0, .string ⟨#[]⟩] 29) := by rw [hB4.block _ hlt3, HBK.out]
  have HBK4 := Lib.hid hBK4
  clear hB4 cb4 k0 k1 k2 k3 k4 k5 k6 k7 hC4 hD4 hBK4
  go_wp2_with fail
  rw [← hW4]
  clear hW4
  go_quiet (fail)
  have hB6 := drewN_below W4 nq
  have HBW6 := Lib.hid (HBW4.out.trans (hB6.mono HBW4.out.size))
  obtain ⟨a0, a1, a2, a3, a4, a5, a6, a7⟩ := (HC4.out.below hB6).get
  have hBK6 : (W4.drewN nq).heap[w.heap.size]? = some (.cells #[.int .i64 0, .int .i64 0, .string ⟨#[]⟩] 29) := HBK4.out
  clear b0 b1 b2 b3 b4 b5 b6 b7 l0 l1 l2 l3 l4 l5 l6 l7 hB6 x1 x2 x3 HC4 HBK4
  generalize W4.drewN nq = W6 at *
  have r0 : W6.cell? ⟨w.heap.size, 0, none⟩ = some (.int .i64 0) := by simp [World.cell?, hBK6]
  have r1 : W6.cell? ⟨w.heap.size, 1, none⟩ = some (.int .i64 0) := by simp [World.cell?, hBK6]
  have r2 : W6.cell? ⟨w.heap.size, 2, none⟩ = some (.string ⟨#[]⟩) := by simp [World.cell?, hBK6]
  have hfz : ∀ q, W6.frozen? ⟨w.heap.size, q, none⟩ = false := fun q => by simp [World.frozen?, hBK6]
  clear hBK6
  have HR0 := Lib.hid r0
  have HR1 := Lib.hid r1
  have HR2 := Lib.hid r2
  go_wp2
  have s0 := World.cell?_setCell_same W6 ⟨w.heap.size, 0, none⟩ (.int .i64 c'.vk) HR0.out
  refine bodyPost_ret (v := .tuple #[.agg #[.int .i64 c'.vk, .int .i64 c'.vn, .string c'.vs], .bool true]) (by simp [results, Tryd.results20, go_sem, HR0.out, HR1.out, HR2.out]) rfl ⟨rfl, ?_⟩
  exact ((HBW6.out.setCell (Nat.le_refl _) _).setCell (Nat.le_refl _) _).setCell (Nat.le_refl _) _
end Go.Proofs.YtndmlldaebdnmaaDoor
