/-
  merge.Split and joistref10.Split.
-/
import Derived.Test.YtmabmnkdigdaiaaDoorJMergeAll
import Derived.Test.YtmabmnkdigdaiaaDoorJTexts
namespace Go.Proofs.YtmabmnkdigdaiaaDoor
open Go.RowKit

theorem less_cmp : ∀ a b : List UInt8, Op.bytesLess a b = decide (Lib.compareBytes a b < 0)
  | [], [] => rfl
  | [], _ :: _ => rfl
  | _ :: _, [] => rfl
  | a :: s, b :: t => by
    have ih := less_cmp s t
    simp only [Op.bytesLess, Lib.compareBytes, UInt8.lt_iff_toNat_lt] at ih ⊢
    by_cases h1 : a.toNat < b.toNat
    · simp [h1]
    · by_cases h2 : b.toNat < a.toNat
      · have : a ≠ b := fun e => by rw [e] at h2; omega
        simp [h1, h2, this]
      · have : a = b := UInt8.toNat_inj.1 (by omega)
        simp [this, ih]
theorem less_str (a b : ByteArray) : Op.bytesLess a.toList b.toList = decide (cmpS a b < 0) := by
  rw [ByteArray.toList_eq, ByteArray.toList_eq, less_cmp]; rfl

def belowC (at_ : ByteArray) (l : List Cell) : List Cell := l.filter fun c => decide (cmpS c.row at_ < 0)
def othersC (at_ : ByteArray) (l : List Cell) : List Cell := l.filter fun c => !decide (cmpS c.row at_ < 0)
def SplitOut (at_ : ByteArray) (l : List Cell) (w : World) (e : Ending) (w' : World) : Prop := ∃ A n cap B m cap', e = .returned (.tuple #[.slice A n cap, .slice B m cap']) ∧ OwnC w' w.heap.size A n cap (belowC at_ l) ∧ OwnC w' w.heap.size B m cap' (othersC at_ l) ∧ Below w.heap.size w w' ∧ (A = none → cap = 0) ∧ (B = none → cap' = 0)

set_option maxHeartbeats 8000000 in
theorem split_calls (A : Option Addr) (n ca : Nat) (l : List Cell) (at_ : ByteArray) (w : World) (hx : RdC w A n l) (hn : n ≤ 100000) :
    Calls Tryd.prog 21 #[.slice A n ca, .string at_] w (SplitOut at_ l w) := by
  have HX := Lib.hid hx
  have hlen := Lib.hid hx.len
  clear hx
  have ho1 := Own.nil 35 8 Cell.l w w.heap.size
  go_enter Tryd.func21, Tryd.ntmps21
  go_wp2
  go_loopw [6, 7, 12] (fun x y i wr => ∃ (k : Nat) (B : Option Addr) (m cb : Nat) (C : Option Addr) (p cc : Nat), i = .int .i64 k ∧ k ≤ n ∧ x = .slice B m cb ∧ y = .slice C p cc ∧ m ≤ k ∧ p ≤ k ∧ OwnC wr w.heap.size B m cb (belowC at_ (l.take k)) ∧ OwnC wr w.heap.size C p cc (othersC at_ (l.take k)) ∧ Hid (∀ g, B = some ⟨g, 0, none⟩ → ¬ C = some ⟨g, 0, none⟩) ∧ Below w.heap.size w wr ∧ Hid (B = none → cb = 0) ∧ Hid (C = none → cc = 0)) (fun _ _ i _ => n - (intOf i).toNat)
  case atStart => exact ⟨0, none, 0, 0, none, 0, 0, rfl, Nat.zero_le _, rfl, rfl, Nat.le_refl _, Nat.le_refl _, ho1, ho1, fun g hg => (by cases hg), Below.refl _ _, fun _ => rfl, fun _ => rfl⟩
  case round =>
    clear ho1
    obtain ⟨k, B, m, cb, C, p, cc, rfl, hk, rfl, rfl, hm, hp, hB, hC, hsep, hb, hz1, hz2⟩ := hrel
    by_cases hlt : k < n
    · obtain ⟨c, b, off, hc, hA, _, hc8⟩ := rd8 HX.out k hlt
      subst hA
      have hst : Hid (l.take (k + 1) = l.take k ++ [c]) := by unfold Hid; rw [List.take_add_one, hc]; rfl
      obtain ⟨k0, k1, k2, k3, k4, k5, k6, k7⟩ := (hc8.below hb).get
      clear hc hc8
      have hless := less_str c.row at_
      by_cases hbel : cmpS c.row at_ < 0
      · rw [decide_eq_true hbel] at hless
        have e1 : Hid (belowC at_ (l.take (k + 1)) = belowC at_ (l.take k) ++ [c]) := by
          unfold Hid belowC; rw [hst.out, List.filter_append]; simp [hbel]
        have e2 : Hid (othersC at_ (l.take (k + 1)) = othersC at_ (l.take k)) := by
          unfold Hid othersC; rw [hst.out, List.filter_append]; simp [hbel]
        clear hbel
        have hq := (Below.refl wr.heap.size wr).alloc (Nat.le_refl _) (.cells c.cells 35)
        have hB2 := hB.below hq
        have hC2 := hC.below hq
        have hsz : w.heap.size ≤ (wr.alloc (.cells c.cells 35)).heap.size := by have := hb.size; simp; omega
        go_wp2_with (at_builtin; refine app_cell rfl (.tmp 20) (.tmp 22) rfl c rfl hB2 (by simp) rfl (by omega) hsz ?_; intro g cap' w4 h1 h2 h3 h4)
        go_roundw
        case rel =>
          refine ⟨k + 1, some ⟨g, 0, none⟩, m + 1, cap', C, p, cc, by go_num, by omega, rfl, rfl, by omega, by omega, by rw [e1.out]; exact h1, ?_, fun q hq e => ?_, (hb.trans (hq.mono hb.size)).trans (h2.below hsz (fun i hi => own_ge hB hi)), fun h => (by cases h), hz2.out⟩
          · rw [e2.out]; exact hC2.only h2 (fun q hq e => hsep.out q e hq)
          · injection hq with hq; injection hq with hq
            subst hq
            rcases h3 with h3 | h3
            · exact hsep.out _ h3 e
            · rcases hC.shape with ⟨h, _⟩ | ⟨q, h, _, h5⟩
              · rw [h] at e; cases e
              · rw [h] at e; injection e with e; injection e with e; simp at h3; omega
        case measure => simp [intOf]; omega
      · rw [decide_eq_false hbel] at hless
        have e1 : Hid (belowC at_ (l.take (k + 1)) = belowC at_ (l.take k)) := by
          unfold Hid belowC; rw [hst.out, List.filter_append]; simp [hbel]
        have e2 : Hid (othersC at_ (l.take (k + 1)) = othersC at_ (l.take k) ++ [c]) := by
          unfold Hid othersC; rw [hst.out, List.filter_append]; simp [hbel]
        clear hbel
        have hq := (Below.refl wr.heap.size wr).alloc (Nat.le_refl _) (.cells c.cells 35)
        have hB2 := hB.below hq
        have hC2 := hC.below hq
        have hsz : w.heap.size ≤ (wr.alloc (.cells c.cells 35)).heap.size := by have := hb.size; simp; omega
        go_wp2_with (at_builtin; refine app_cell rfl (.tmp 24) (.tmp 26) rfl c rfl hC2 (by simp) rfl (by omega) hsz ?_; intro g cap' w4 h1 h2 h3 h4)
        go_roundw
        case rel =>
          refine ⟨k + 1, B, m, cb, some ⟨g, 0, none⟩, p + 1, cap', by go_num, by omega, rfl, rfl, by omega, by omega, ?_, by rw [e2.out]; exact h1, fun q hq e => ?_, (hb.trans (hq.mono hb.size)).trans (h2.below hsz (fun i hi => own_ge hC hi)), hz1.out, fun h => (by cases h)⟩
          · rw [e1.out]; exact hB2.only h2 (fun q hq e => hsep.out q hq e)
          · injection e with e; injection e with e
            subst e
            rcases h3 with h3 | h3
            · exact hsep.out _ hq h3
            · rcases hB.shape with ⟨h, _⟩ | ⟨q', h, _, h5⟩
              · rw [h] at hq; cases hq
              · rw [h] at hq; injection hq with hq; injection hq with hq; simp at h3; omega
        case measure => simp [intOf]; omega
    · obtain rfl : k = n := by omega
      have hl : Hid (l.take k = l) := List.take_of_length_le (by have := hlen.out; omega)
      go_wp2
      refine bodyPost_ret (by simp [results, Tryd.results21, go_sem]; try rfl) rfl ?_
      rw [hl.out] at hB hC
      exact ⟨B, m, cb, C, p, cc, rfl, hB, hC, hb, hz1.out, hz2.out⟩
set_option maxHeartbeats 8000000 in
theorem rsplit_calls (A : Option Addr) (n ca : Nat) (l : List Cell) (at_ : ByteArray) (w : World) (hx : RdC w A n l) (hn : n ≤ 100000) (hf : ∀ c ∈ l, c.row.size ≤ 140737488351232) (hat : at_.size ≤ 140737488351232) :
    Calls Tryd.prog 22 #[.slice A n ca, .string at_] w (SplitOut at_ l w) := by
  have HX := Lib.hid hx
  have hlen := Lib.hid hx.len
  have HF := Lib.hid hf
  clear hx hf
  have ho1 := (Own.lit 35 8 Cell.l w w.heap.size (Nat.le_refl _)).below ((Below.refl _ _).alloc (Nat.le_refl _) (.cells #[] 35))
  have ho2 := Own.lit 35 8 Cell.l (w.alloc (.cells #[] 35)) w.heap.size (by simp)
  have e0 : (w.alloc (.cells #[] 35)).heap.size = w.heap.size + 1 := by simp
  rw [e0] at ho2
  clear e0
  have hb0 := ((Below.refl w.heap.size w).alloc (Nat.le_refl _) (.cells #[] 35)).alloc (by simp) (.cells #[] 35)
  go_enter Tryd.func22, Tryd.ntmps22
  go_wp2
  generalize hW : (w.alloc (.cells #[] 35)).alloc (.cells #[] 35) = W0 at *
  clear hW
  go_loopw [6, 7, 8] (fun x y i wr => ∃ (k : Nat) (B : Option Addr) (m cb : Nat) (C : Option Addr) (p cc : Nat), i = .int .i64 k ∧ k ≤ n ∧ x = .slice B m cb ∧ y = .slice C p cc ∧ m ≤ k ∧ p ≤ k ∧ OwnC wr w.heap.size B m cb (belowC at_ (l.take k)) ∧ OwnC wr w.heap.size C p cc (othersC at_ (l.take k)) ∧ Hid (∀ g, B = some ⟨g, 0, none⟩ → ¬ C = some ⟨g, 0, none⟩) ∧ Below w.heap.size w wr ∧ Hid (B = none → cb = 0) ∧ Hid (C = none → cc = 0)) (fun _ _ i _ => n - (intOf i).toNat)
  case atStart => exact ⟨0, _, 0, 0, _, 0, 0, rfl, Nat.zero_le _, rfl, rfl, Nat.le_refl _, Nat.le_refl _, ho1, ho2, fun g hg hg' => (by injection hg with hg; injection hg with hg; injection hg' with hg'; injection hg' with hg'; omega), hb0, fun _ => rfl, fun _ => rfl⟩
  case round =>
    clear ho1 ho2 hb0
    obtain ⟨k, B, m, cb, C, p, cc, rfl, hk, rfl, rfl, hm, hp, hB, hC, hsep, hb, hz1, hz2⟩ := hrel
    by_cases hlt : k < n
    · obtain ⟨c, b, off, hc, hA, _, hc8⟩ := rd8 HX.out k hlt
      subst hA
      have hst : Hid (l.take (k + 1) = l.take k ++ [c]) := by unfold Hid; rw [List.take_add_one, hc]; rfl
      have hcr := HF.out c (List.mem_of_getElem? hc)
      have htx := Lib.hid (texts_calls c.row at_ wr hcr hat)
      have hc8' := hc8.below hb
      clear hc hc8
      obtain ⟨k0, k1, k2, k3, k4, k5, k6, k7⟩ := hc8'.get
      clear hc8'
      obtain ⟨o, ho⟩ : ∃ o, o = cmpS c.row at_ := ⟨_, rfl⟩
      rw [← ho] at htx
      by_cases hbel : o < 0
      · have hbel' := hbel
        rw [ho] at hbel'
        clear ho
        have e1 : Hid (belowC at_ (l.take (k + 1)) = belowC at_ (l.take k) ++ [c]) := by
          unfold Hid belowC; rw [hst.out, List.filter_append]; simp [hbel']
        have e2 : Hid (othersC at_ (l.take (k + 1)) = othersC at_ (l.take k)) := by
          unfold Hid othersC; rw [hst.out, List.filter_append]; simp [hbel']
        clear hbel'
        have hq' := below_drewN wr
        have hB2' := fun q => hB.below (hq' q)
        have hC2' := fun q => hC.below (hq' q)
        have hsz' : ∀ q, w.heap.size ≤ (wr.drewN q).heap.size := fun q => hb.size
        have HB2 := Lib.hid hB2'
        have HC2 := Lib.hid hC2'
        have HQ := Lib.hid hq'
        have HS := Lib.hid hsz'
        clear hB2' hC2' hq' hsz'
        go_wp2_with (first | (go_at_call 28; refine htx.out.mono ?_; clear htx; rintro e w2 ⟨rfl, q, rfl⟩; have hB2 := HB2.out q; have hC2 := HC2.out q; have hq := HQ.out q; have hsz := HS.out q) | (at_builtin; refine app_cell rfl (.tmp 25) (.tmp 30) rfl c rfl hB2 rfl rfl (by omega) hsz ?_; intro g cap' w4 h1 h2 h3 h4))
        go_roundw
        case rel =>
          refine ⟨k + 1, some ⟨g, 0, none⟩, m + 1, cap', C, p, cc, by go_num, by omega, rfl, rfl, by omega, by omega, by rw [e1.out]; exact h1, ?_, fun q hq e => ?_, (hb.trans (hq.mono hb.size)).trans (h2.below hsz (fun i hi => own_ge hB hi)), fun h => (by cases h), hz2.out⟩
          · rw [e2.out]; exact hC2.only h2 (fun q hq e => hsep.out q e hq)
          · injection hq with hq; injection hq with hq
            subst hq
            rcases h3 with h3 | h3
            · exact hsep.out _ h3 e
            · rcases hC.shape with ⟨h, _⟩ | ⟨q, h, _, h5⟩
              · rw [h] at e; cases e
              · rw [h] at e; injection e with e; injection e with e; have h6 : wr.heap.size < g := h3; omega
        case measure => simp [intOf]; omega
      · have hbel' := hbel
        rw [ho] at hbel'
        clear ho
        have e1 : Hid (belowC at_ (l.take (k + 1)) = belowC at_ (l.take k)) := by
          unfold Hid belowC; rw [hst.out, List.filter_append]; simp [hbel']
        have e2 : Hid (othersC at_ (l.take (k + 1)) = othersC at_ (l.take k) ++ [c]) := by
          unfold Hid othersC; rw [hst.out, List.filter_append]; simp [hbel']
        clear hbel'
        have hq' := below_drewN wr
        have hB2' := fun q => hB.below (hq' q)
        have hC2' := fun q => hC.below (hq' q)
        have hsz' : ∀ q, w.heap.size ≤ (wr.drewN q).heap.size := fun q => hb.size
        have HB2 := Lib.hid hB2'
        have HC2 := Lib.hid hC2'
        have HQ := Lib.hid hq'
        have HS := Lib.hid hsz'
        clear hB2' hC2' hq' hsz'
        go_wp2_with (first | (go_at_call 28; refine htx.out.mono ?_; clear htx; rintro e w2 ⟨rfl, q, rfl⟩; have hB2 := HB2.out q; have hC2 := HC2.out q; have hq := HQ.out q; have hsz := HS.out q) | (at_builtin; refine app_cell rfl (.tmp 32) (.tmp 37) rfl c rfl hC2 rfl rfl (by omega) hsz ?_; intro g cap' w4 h1 h2 h3 h4))
        go_roundw
        case rel =>
          refine ⟨k + 1, B, m, cb, some ⟨g, 0, none⟩, p + 1, cap', by go_num, by omega, rfl, rfl, by omega, by omega, ?_, by rw [e2.out]; exact h1, fun q hq e => ?_, (hb.trans (hq.mono hb.size)).trans (h2.below hsz (fun i hi => own_ge hC hi)), hz1.out, fun h => (by cases h)⟩
          · rw [e1.out]; exact hB2.only h2 (fun q hq e => hsep.out q hq e)
          · injection e with e; injection e with e
            subst e
            rcases h3 with h3 | h3
            · exact hsep.out _ hq h3
            · rcases hB.shape with ⟨h, _⟩ | ⟨q', h, _, h5⟩
              · rw [h] at hq; cases hq
              · rw [h] at hq; injection hq with hq; injection hq with hq; have h6 : wr.heap.size < g := h3; omega
        case measure => simp [intOf]; omega
    · obtain rfl : k = n := by omega
      have hl : Hid (l.take k = l) := List.take_of_length_le (by have := hlen.out; omega)
      go_wp2
      refine bodyPost_ret (by simp [results, Tryd.results22, go_sem]; try rfl) rfl ?_
      rw [hl.out] at hB hC
      exact ⟨B, m, cb, C, p, cc, rfl, hB, hC, hb, hz1.out, hz2.out⟩
end Go.Proofs.YtmabmnkdigdaiaaDoor
