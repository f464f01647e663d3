/-
  cell.Rows of four cells of one row.
-/
import Derived.Test.YtndmlldaebdnmaaDoorWSort
import Derived.Sort.OwnSorted
namespace Go.Proofs.YtndmlldaebdnmaaDoor
open Go.RowKit Go.Sort

abbrev rB : ByteArray := ⟨#[114]⟩
abbrev encS (s : ByteArray) : List Value := [.string s]
theorem infoStr : (Tryd.prog.info? 9).map (fun i => (i.zero, i.size, i.bytes)) = some (some (.string ⟨#[]⟩), 1, 16) := by kernel_rfl
/-- append of one text. -/
theorem app_str {w : World} {ops : Array Oper} {rest : List Oper} {o : Oper} {a : Act} {Q : Exit → Act → World → Prop} (hgd : o.guard = none) (s x : Operand)
    (ho : o.op = .call { callee := .builtin .append, args := #[s, x], argTypes := #[44, 44] }) (c : ByteArray)
    {base n cap nb : Nat} {A : Option Addr} {xs : List ByteArray} (hs : a.eval s = .slice A n cap) (hown : Own 9 1 encS w base A n cap xs) (hnb : nb = w.heap.size) (hx : a.eval x = .slice (some ⟨nb, 0, none⟩) 1 1) (hn : n ≤ 1000000) (hbase : base ≤ w.heap.size)
    (h : ∀ g cap' w', Own 9 1 encS w' base (some ⟨g, 0, none⟩) (n + 1) cap' (xs ++ [c]) → Only (fun k => A = some ⟨k, 0, none⟩) w w' → (A = some ⟨g, 0, none⟩ ∨ w.heap.size < g) → g < w'.heap.size →
      wpList Tryd.prog ops Q rest (a.put o.dst (.slice (some ⟨g, 0, none⟩) (n + 1) cap')) w') : wpList Tryd.prog ops Q (o :: rest) a (w.alloc (.cells #[.string c] 9)) := by
  obtain ⟨i0, hi, hz0, hz1, hz2⟩ := info_parts infoStr
  subst hnb
  have hb : Below w.heap.size w (w.alloc (.cells #[.string c] 9)) := (Below.refl _ _).alloc (Nat.le_refl _) _
  refine append_one hgd s x 44 ho i0 _ 16 Tryd.underlying44 hi hz0 hz1 hz2 rfl (by omega) (fun _ => rfl) (c := c) hs (hown.below hb) hx (fun j u hj => ?_) (fun u hu => by simp only [encS, List.mem_cons, List.not_mem_nil, or_false] at hu; subst hu; rfl) (by omega) (by unfold maxLen; omega) (Nat.le_trans hbase hb.size) ?_
  · rw [World.cell?_alloc_new]; simpa [encS] using hj
  · intro g cap' w' h1 h2 h3 h4
    refine h g cap' w' h1 ((hb.only _).trans h2) (h3.imp id fun h3 => ?_) h4
    simp at h3; omega
theorem compact_four : Lib.compact (List.replicate 4 [(114 : UInt8)]) = [[114]] := by decide
theorem sort_four : ((List.replicate 4 [(114 : UInt8)]).mergeSort fun x y => decide (x ≤ y)) = List.replicate 4 [(114 : UInt8)] := by
  refine List.eq_replicate_iff.2 ⟨by simp, fun b hb => ?_⟩
  have := (List.mergeSort_perm (List.replicate 4 [(114 : UInt8)]) fun x y => decide (x ≤ y)).mem_iff.1 hb
  exact List.eq_of_mem_replicate this

set_option maxHeartbeats 2000000 in
set_option maxRecDepth 20000 in
theorem rows_calls (A : Option Addr) (ca : Nat) (xs : List Cell) (w : World) (hx : RdC w A 4 xs) (hr : ∀ c ∈ xs, c.row = rB) :
    Calls Tryd.prog 21 #[.slice A 4 ca] w fun e w' => (∃ p cap, e = .returned (.slice p 1 cap)) ∧ Below w.heap.size w w' := by
  have HX := Lib.hid hx
  have HR := Lib.hid hr
  clear hx hr
  go_enter Tryd.func21, Tryd.ntmps21
  go_wp2_with fail
  go_loopw [3, 8] (fun o i wr => ∃ (k cap : Nat) (B : Option Addr), k ≤ 4 ∧ i = .int .i64 k ∧ o = .slice B k cap ∧ Hid (Own 9 1 encS wr w.heap.size B k cap (List.replicate k rB)) ∧ Hid (Below w.heap.size w wr)) (fun _ i _ => 4 - (intOf i).toNat)
  case atStart => exact ⟨0, 0, none, Nat.zero_le _, rfl, rfl, Own.nil _ _ _ _ _, Below.refl _ _⟩
  case round =>
    obtain ⟨k, cap, B, hk, rfl, rfl, HO, HBW⟩ := hrel
    by_cases hlt : k < 4
    · obtain ⟨c, bb, off, hc, hA2, hbl, hc8⟩ := rd8 (HX.out.below HBW.out) k hlt
      obtain ⟨k0, k1, k2, k3, k4, k5, k6, k7⟩ := hc8.get
      have hcr := HR.out c (List.mem_of_getElem? hc)
      rw [hcr] at k0
      obtain ⟨hB5, _⟩ := one_box wr #[.string rB, .string c.fam, .string c.qual, .int .i64 c.time, .int .i64 c.kind, .int .i64 c.vk, .int .i64 c.vn, .string c.vs] 31
      have HO5 := Lib.hid (HO.out.below hB5)
      have HBW5 := Lib.hid (HBW.out.trans (hB5.mono HBW.out.size))
      have hz5 := HBW5.out.size
      subst hA2
      clear hc8 hc hcr hB5 hbl HO HBW
      go_wp2_with (at_builtin; refine app_str rfl (.tmp 12) (.tmp 15) rfl rB rfl HO5.out (by simp) rfl (by omega) hz5 ?_; intro g6 cap6 w6 h1 h2 h3 h4)
      have hwb : ∀ x, B = some ⟨x, 0, none⟩ → w.heap.size ≤ x := fun x hx => by
        rcases HO5.out.shape with ⟨h, _⟩ | ⟨q, h, h5, _⟩
        · rw [h] at hx; cases hx
        · rw [h] at hx; injection hx with hx; injection hx with hx; omega
      have HBW6 := Lib.hid (HBW5.out.trans (h2.below (B := w.heap.size) hz5 (fun i hi => hwb i hi)))
      rw [← List.replicate_succ'] at h1
      have HO6 := Lib.hid h1
      clear h1 h2 h3 h4 hwb
      go_roundw
      case rel => exact ⟨k + 1, cap6, some ⟨g6, 0, none⟩, by omega, by go_num, rfl, HO6.out, HBW6.out⟩
      case measure => simp [intOf]; omega
    · obtain rfl : k = 4 := by omega
      obtain ⟨g, cap', cur, hB, hbase, hblk, h1, h2, h3, h4⟩ : ∃ g cap' cur, B = some ⟨g, 0, none⟩ ∧ w.heap.size ≤ g ∧ wr.heap[g]? = some (.cells cur 9 (0, 0)) ∧ 4 ≤ cap ∧ cap ≤ maxLen ∧ cur.size = cap * 1 ∧ cur.toList.take (4 * 1) = (List.replicate 4 rB).flatMap encS := by
        obtain ⟨_, _, h | ⟨g, cap', cur, e1, e2, e3, e4, e5, e6, e7⟩⟩ := HO.out
        · have := h.2; omega
        · injection e1 with e1 _ e8
          subst e8
          exact ⟨g, cap, cur, e1, e2, e3, e4, e5, e6, e7⟩
      subst hB
      have h4' : cur.toList.take (List.replicate 4 [(114 : UInt8)]).length = (List.replicate 4 [(114 : UInt8)]).map encStr := h4
      have HH := Lib.hid (holds_of_block hblk h4')
      have HG := Lib.hid (Array.getElem?_eq_some_iff.1 hblk).1
      have HBK := Lib.hid hblk
      have HC4 := Lib.hid h1
      have HCM := Lib.hid h2
      have HC3 := Lib.hid h3
      have HBASE := Lib.hid hbase
      clear hblk h1 h2 h3 h4 h4' hbase HO hk hlt
      go_wp2_with fail
      refine (Tryd.slices_Sort_string g 0 cap (List.replicate 4 [(114 : UInt8)]) wr HH.out HG.out (by decide)).mono ?_
      rintro e w2 ⟨rfl, n2, os, hw2⟩
      rw [sort_four] at hw2
      have hbl : Below wr.heap.size wr w2 := by
        rw [putRow_self encStr (Sort.ahead wr n2) g 0 _ (holds_ahead encStr wr n2 g 0 _ HH.out)] at hw2
        rw [hw2]
        exact ⟨rfl, rfl, rfl, by simp, fun k hk => heap_grow_old _ _ hk⟩
      have hH2 : Holds encStr w2 g 0 (List.replicate 4 [(114 : UInt8)]).toArray := fun j hj => ⟨below_cell hbl (Nat.le_refl _) (HH.out j hj).1, (hbl.frozen (p := ⟨g, 0 + j, none⟩) HG.out).trans (HH.out j hj).2⟩
      have HH2 := Lib.hid hH2
      have HBW2 := Lib.hid (HBW.out.trans (hbl.mono HBW.out.size))
      clear hw2 hbl hH2
      go_wp2_with fail
      refine (Tryd.slices_Compact_string g 0 cap (List.replicate 4 [(114 : UInt8)]) w2 HH2.out (by decide) HC4.out).mono ?_
      rintro e w3 ⟨rfl, q3, hw3⟩
      have hbl3 : Below w.heap.size w2 w3 := by
        have h := grownBy_sorted (w := w2) (g := g) (n := q3) (os := #[]) (Lib.compact (List.replicate 4 [(114 : UInt8)]) ++ List.replicate ((List.replicate 4 [(114 : UInt8)]).length - (Lib.compact (List.replicate 4 [(114 : UInt8)])).length) []).toArray
        rw [grow_empty, ← hw3] at h
        exact (grownBy_only h).below HBW2.out.size (fun i hi => by injection hi with hi; have := HBASE.out; omega)
      have HBW3 := Lib.hid (HBW2.out.trans hbl3)
      clear hw3 hbl3
      rw [compact_four]
      go_wp2
      go_ret
      exact ⟨⟨_, _, rfl⟩, HBW3.out⟩
end Go.Proofs.YtndmlldaebdnmaaDoor
