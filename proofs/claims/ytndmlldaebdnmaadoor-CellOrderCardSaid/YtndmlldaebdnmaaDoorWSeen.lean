/-
  cell.Seen, out of Sort's contract.
-/
import Derived.Test.YtndmlldaebdnmaaDoorWLet
namespace Go.Proofs.YtndmlldaebdnmaaDoor
open Go.RowKit

def OutC (xs : List Cell) (w : World) (e : Ending) (w' : World) : Prop := ∃ A n cap, e = .returned (.slice A n cap) ∧ OwnC w' w.heap.size A n cap xs ∧ Below w.heap.size w w'
/-- cell.Sort's contract. -/
structure SortIs : Prop where
  out : ∀ (A : Option Addr) (n ca : Nat) (xs : List Cell) (w : World), RdC w A n xs → n ≤ 1000 → (∀ c ∈ xs, c.fits) → Lib.Utf8Tabs 0 1 w → Calls Tryd.prog 11 #[.slice A n ca] w (OutC (sortL xs) w)
theorem sortL_len (l : List Cell) : (sortL l).length ≤ l.length := by
  refine snoc_rec (P := fun l => (sortL l).length ≤ l.length) (Nat.le_refl _) (fun l c ih => ?_) l
  rw [sortL_snoc, List.length_append, List.length_singleton]
  split
  · have h1 : ((sortL l).filter (fun x => decide (x.order c < 0))).length + ((sortL l).filter (fun x => decide (c.order x < 0))).length ≤ (sortL l).length := by
      generalize sortL l = X
      induction X with
      | nil => exact Nat.le_refl _
      | cons x X ih =>
        rw [List.filter_cons, List.filter_cons]
        have := order_is.anti x c
        by_cases h1 : x.order c < 0
        · rw [if_pos (decide_eq_true h1), if_neg (by rw [decide_eq_true_eq]; omega)]
          simp; omega
        · rw [if_neg (by rw [decide_eq_true_eq]; exact h1)]
          split <;> simp <;> omega
    unfold putIn
    simp only [List.length_append, List.length_cons]
    omega
  · omega
theorem turn_n (s : Sv) (c : Cell) (h : 0 ≤ s.n) : 0 ≤ (s.turn c).n ∧ (s.turn c).n ≤ s.n := by
  unfold Sv.turn
  split
  · exact ⟨Int.le_refl _, h⟩
  · split
    · exact ⟨Int.le_refl _, h⟩
    · exact ⟨h, Int.le_refl _⟩
theorem next_n (life now : Int) (s : Sv) (c : Cell) (h : 0 ≤ s.n) : 0 ≤ (s.next life now c).n ∧ (s.next life now c).n ≤ s.n + 1 := by
  have ht := turn_n s c h
  unfold Sv.next
  simp only
  split
  · split <;> (first | exact ⟨ht.1, Int.le_trans ht.2 (by omega)⟩ | exact ⟨show 0 ≤ (s.turn c).n + 1 by omega, show (s.turn c).n + 1 ≤ s.n + 1 by omega⟩)
  · split
    · split <;> (first | exact ⟨ht.1, Int.le_trans ht.2 (by omega)⟩ | exact ⟨show 0 ≤ (s.turn c).n + 1 by omega, show (s.turn c).n + 1 ≤ s.n + 1 by omega⟩)
    · split
      · first | exact ⟨ht.1, Int.le_trans ht.2 (by omega)⟩ | exact ⟨show 0 ≤ (s.turn c).n + 1 by omega, show (s.turn c).n + 1 ≤ s.n + 1 by omega⟩
      · split <;> (first | exact ⟨ht.1, Int.le_trans ht.2 (by omega)⟩ | exact ⟨show 0 ≤ (s.turn c).n + 1 by omega, show (s.turn c).n + 1 ≤ s.n + 1 by omega⟩)

set_option maxHeartbeats 2000000 in
set_option maxRecDepth 20000 in
theorem seen_calls (HSI : SortIs) (A : Option Addr) (n ca : Nat) (xs : List Cell) (v life now : Int) (w : World) (hx : RdC w A n xs) (hn : n ≤ 1000) (hf : ∀ c ∈ xs, c.fits) (hT : Lib.Utf8Tabs 0 1 w) (hnow : life = 0 ∨ (-1152921504606846976 ≤ now ∧ now ≤ 1152921504606846976)) :
    Calls Tryd.prog 16 #[.slice A n ca, .int .i64 v, .int .i64 life, .int .i64 now] w (OutC (seenL v life now xs) w) := by
  by_cases hb1 : v < 1
  · have HE : Hid (seenL v life now xs = []) := by unfold Hid seenL; rw [if_pos (.inl hb1)]
    go_enter Tryd.func16, Tryd.ntmps16
    go_wp2
    go_ret
    exact ⟨none, 0, 0, rfl, by rw [HE.out]; exact Own.nil _ _ _ _ _, Below.refl _ _⟩
  by_cases hb2 : 8 < v
  · have HE : Hid (seenL v life now xs = []) := by unfold Hid seenL; rw [if_pos (.inr (.inl hb2))]
    go_enter Tryd.func16, Tryd.ntmps16
    go_wp2
    go_ret
    exact ⟨none, 0, 0, rfl, by rw [HE.out]; exact Own.nil _ _ _ _ _, Below.refl _ _⟩
  by_cases hb3 : life < 0
  · have HE : Hid (seenL v life now xs = []) := by unfold Hid seenL; rw [if_pos (.inr (.inr hb3))]
    go_enter Tryd.func16, Tryd.ntmps16
    go_wp2
    go_ret
    exact ⟨none, 0, 0, rfl, by rw [HE.out]; exact Own.nil _ _ _ _ _, Below.refl _ _⟩
  have HE : Hid (seenL v life now xs = seenF v life now Sv.start (sortL xs)) := by unfold Hid seenL; rw [if_neg (by omega)]
  have HX := Lib.hid hx
  have HF := Lib.hid hf
  have HT := Lib.hid hT
  have HNOW := Lib.hid hnow
  clear hx hf hT hnow
  go_enter Tryd.func16, Tryd.ntmps16
  go_wp2_with fail
  obtain ⟨W1, hW1⟩ : ∃ W1, W1 = w.alloc (.cells (svV v life now Sv.start) 54) := ⟨_, rfl⟩
  have hb1' : Below w.heap.size w W1 := by rw [hW1]; exact (Below.refl _ _).alloc (Nat.le_refl _) _
  have hs1 : SvAt W1 w.heap.size v life now Sv.start := ⟨by rw [hW1, heap_alloc_new]⟩
  have hsort := HSI.out A n ca xs W1 (HX.out.below hb1') hn HF.out (tabs_below HT.out hb1')
  rw [hW1] at hsort
  refine hsort.mono ?_
  clear hsort
  rintro e w2 ⟨A2, n2, c2, rfl, hown2, hb2⟩
  rw [← hW1] at hown2 hb2
  have HS2 := Lib.hid (hs1.below hb2)
  have HB2 := Lib.hid (hb1'.trans (hb2.mono hb1'.size))
  have HO2 := Lib.hid hown2
  have hlt1 : w.heap.size < W1.heap.size := hs1.lt
  have hlen2 : n2 ≤ 1000 := by
    have h1 := hown2.1
    have h2 := sortL_len xs
    have h3 := HX.out.len
    omega
  have HLEN := Lib.hid hown2.1
  have HTAME := Lib.hid (sortL_tame xs)
  have HOK : Hid (∀ c ∈ sortL xs, c.ok = true) := fun c hc => sortL_ok hc
  obtain ⟨S, hS⟩ : ∃ S, S = sortL xs := ⟨_, rfl⟩
  rw [← hS] at HO2 HLEN HTAME HOK HE
  have hw12 := hb2.size
  clear hW1 hb1' hs1 hown2 hb2 hS HX HF HT
  go_wp2_with fail
  go_loopw [10, 31] (fun o i wr => ∃ (k m cap : Nat) (B : Option Addr) (st : Sv) (outs : List Cell), k ≤ n2 ∧ i = .int .i64 k ∧ o = .slice B m cap ∧ m ≤ k ∧ Hid (OwnC wr w2.heap.size B m cap outs) ∧ Hid (OwnC wr W1.heap.size A2 n2 c2 S) ∧ Hid (SvAt wr w.heap.size v life now st) ∧ Hid (Below w.heap.size w wr) ∧ Hid (0 ≤ st.n ∧ st.n ≤ k) ∧ Hid (outs ++ seenF v life now st (S.drop k) = seenF v life now Sv.start S) ∧ Hid (w2.heap.size ≤ wr.heap.size) ∧ Hid (∀ g, A2 = some ⟨g, 0, none⟩ → g < w2.heap.size)) (fun _ i _ => n2 - (intOf i).toNat)
  case atStart => exact ⟨0, 0, 0, none, Sv.start, [], Nat.zero_le _, rfl, rfl, Nat.le_refl _, Own.nil _ _ _ _ _, HO2.out, HS2.out, HB2.out, ⟨by decide, by decide⟩, rfl, Nat.le_refl _, fun g hg => by
    rcases HO2.out.shape with ⟨h, _⟩ | ⟨q, h, _, h3⟩
    · rw [h] at hg; cases hg
    · rw [h] at hg; injection hg with hg; injection hg with hg; omega⟩
  case round =>
    obtain ⟨k, m, cap, B, st, outs, hk, rfl, rfl, hm, HO, HSO, HSV, HBW, HN, HR, HZ, HG2⟩ := hrel
    clear HO2 HS2 HB2
    by_cases hlt : k < n2
    · obtain ⟨c, bb, off, hc, hA2, hbl, hc8⟩ := rd8 (HSO.out.rd Cell.l_len) k hlt
      obtain ⟨k0, k1, k2, k3, k4, k5, k6, k7⟩ := hc8.get
      have hcS := List.mem_of_getElem? hc
      have hcok := HOK.out c hcS
      have hkd := (ok_bare hcok).2.1
      have hwr : life = 0 ∨ wrap64 (now - c.time) = now - c.time := by
        rcases HNOW.out with h | h
        · exact .inl h
        · right
          have ht : 0 ≤ c.time ∧ c.time ≤ 1099511627776 := by
            have := hcok
            unfold Cell.ok at this
            simp only [Bool.and_eq_true, decide_eq_true_eq] at this
            omega
          unfold wrap64; omega
      have hdrop : S.drop k = c :: S.drop (k + 1) := by
        rw [List.drop_eq_getElem_cons (by rw [← HLEN.out]; exact hlt)]
        congr 1
        have := hc
        rw [List.getElem?_eq_getElem (by rw [← HLEN.out]; exact hlt)] at this
        exact Option.some.inj this
      have HR1 := HR.out
      rw [hdrop, seenF] at HR1
      have HRR := Lib.hid HR1
      obtain ⟨hB5, cb5⟩ := one_box wr c.cells 31
      have htn := turn_n st c HN.out.1
      have hlet := Lib.hid (let_calls w.heap.size v life now st c (wr.alloc (.cells c.cells 31)) (HSV.out.below hB5) hkd ⟨htn.1, by have := HN.out.2; omega⟩ hwr)
      have HNN := Lib.hid (next_n life now st c HN.out.1)
      have HB5 := Lib.hid hB5
      have HC5 := Lib.hid cb5
      have hltw : w.heap.size < wr.heap.size := by have := HZ.out; omega
      subst hA2
      clear hc8 hc hcS hcok hkd hwr hdrop HR1 hB5 cb5 htn hbl HR
      go_wp2_with fail
      refine hlet.out.mono ?_
      rintro e w5 ⟨rfl, ho5, hs5⟩
      have hO : Only (fun x => x = w.heap.size) wr w5 := (HB5.out.only _).trans ho5
      have hw1w2 : W1.heap.size ≤ w2.heap.size := hw12
      have HO5 : Hid (OwnC w5 w2.heap.size B m cap outs) := HO.out.only hO (fun g hg e => by
        rcases HO.out.shape with ⟨h, _⟩ | ⟨q, h, h2, _⟩
        · rw [h] at hg; cases hg
        · rw [h] at hg; injection hg with hg; injection hg with hg; omega)
      have HSO5 := Lib.hid (HSO.out.only hO (fun g hg e => by
        rcases HSO.out.shape with ⟨h, _⟩ | ⟨q, h, h2, _⟩
        · cases h
        · rw [h] at hg; injection hg with hg; injection hg with hg; omega))
      have HBW5 := Lib.hid (HBW.out.trans (hO.below (B := w.heap.size) (by omega) (fun i hi => by omega)))
      have HZ5 : Hid (w2.heap.size ≤ w5.heap.size) := Nat.le_trans HZ.out hO.size
      have hneq : ¬ wr.heap.size = w.heap.size := by omega
      have b0 := ho5.cell (HC5.out 0 _ rfl) hneq
      have b1 := ho5.cell (HC5.out 1 _ rfl) hneq
      have b2 := ho5.cell (HC5.out 2 _ rfl) hneq
      have b3 := ho5.cell (HC5.out 3 _ rfl) hneq
      have b4 := ho5.cell (HC5.out 4 _ rfl) hneq
      have b5 := ho5.cell (HC5.out 5 _ rfl) hneq
      have b6 := ho5.cell (HC5.out 6 _ rfl) hneq
      have b7 := ho5.cell (HC5.out 7 _ rfl) hneq
      have HS5 := Lib.hid hs5
      have hz5 := HZ5.out
      have hwlt5 : wr.heap.size < w5.heap.size := lt_of_cell b0
      clear ho5 hs5 hO HO HSO HSV HBW HZ hlet k0 k1 k2 k3 k4 k5 k6 k7 HB5 HC5
      cases hl : st.lets v life now c with
      | false =>
        have HR2 : Hid (outs ++ seenF v life now (st.next life now c) (S.drop (k + 1)) = seenF v life now Sv.start S) := by
          have := HRR.out
          rw [hl, if_neg (by decide)] at this
          exact this
        clear hl HRR
        go_wp2
        go_roundw
        case rel => exact ⟨k + 1, m, cap, B, st.next life now c, outs, by omega, by go_num, rfl, by omega, HO5.out, HSO5.out, HS5.out, HBW5.out, ⟨HNN.out.1, by have := HNN.out.2; have := HN.out.2; push_cast; omega⟩, HR2.out, HZ5.out, HG2.out⟩
        case measure => simp [intOf]; omega
      | true =>
        have HR2 : Hid ((outs ++ [c]) ++ seenF v life now (st.next life now c) (S.drop (k + 1)) = seenF v life now Sv.start S) := by
          have := HRR.out
          rw [hl, if_pos rfl] at this
          unfold Hid
          rw [← this, List.append_assoc]
          rfl
        clear hl HRR
        go_wp2_with (at_builtin; refine app_cell rfl (.tmp 38) (.tmp 40) rfl c rfl HO5.out rfl rfl (by omega) hz5 ?_; intro g6 cap6 w6 h1 h2 h3 h4)
        have hwb : ∀ x, B = some ⟨x, 0, none⟩ → w2.heap.size ≤ x := fun x hx => by
          rcases HO5.out.shape with ⟨h, _⟩ | ⟨q, h, h5, _⟩
          · rw [h] at hx; cases hx
          · rw [h] at hx; injection hx with hx; injection hx with hx; omega
        have HS6 : Hid (SvAt w6 w.heap.size v life now (st.next life now c)) := ⟨(h2.block w.heap.size (by omega) (fun h => by have := hwb _ h; omega)).trans HS5.out.row⟩
        have HSO6 := Lib.hid (HSO5.out.only h2 (fun g hg e => by have := HG2.out g hg; have := hwb g e; omega))
        have HBW6 := Lib.hid (HBW5.out.trans (h2.below (B := w.heap.size) (by omega) (fun i hi => by have := hwb i hi; omega)))
        have HZ6 : Hid (w2.heap.size ≤ w6.heap.size) := Nat.le_trans HZ5.out h2.size
        have HO6 := Lib.hid h1
        clear h1 h2 h3 h4
        go_roundw
        case rel => exact ⟨k + 1, m + 1, cap6, some ⟨g6, 0, none⟩, st.next life now c, outs ++ [c], by omega, by go_num, rfl, by omega, HO6.out, HSO6.out, HS6.out, HBW6.out, ⟨HNN.out.1, by have := HNN.out.2; have := HN.out.2; push_cast; omega⟩, HR2.out, HZ6.out, HG2.out⟩
        case measure => simp [intOf]; omega
    · obtain rfl : k = n2 := by omega
      have HRR : Hid (outs = seenL v life now xs) := by
        have h := HR.out
        rw [List.drop_eq_nil_of_le (by rw [HLEN.out]; exact Nat.le_refl _)] at h
        have h2 : outs = seenF v life now Sv.start S := by
          have e : seenF v life now st [] = [] := rfl
          rw [e, List.append_nil] at h
          exact h
        unfold Hid
        rw [h2, HE.out]
      have hzz := HZ.out
      go_wp2
      go_ret
      exact ⟨B, m, cap, rfl, by rw [← HRR.out]; exact HO.out.lower (by omega), HBW.out⟩
end Go.Proofs.YtndmlldaebdnmaaDoor
