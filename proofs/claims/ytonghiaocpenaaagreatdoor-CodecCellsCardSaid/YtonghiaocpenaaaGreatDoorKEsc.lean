/-
  val.escaped: a text's bytes with its zeros marked, and an end.
-/
import Derived.Test.YtonghiaocpenaaaGreatDoorKEight
import Derived.Test.YtonghiaocpenaaaGreatDoorJRight
import Derived.Lib.ConvBytes
import Derived.Lib.AtoiErrMem
import Derived.Lib.AppendZeros
import Derived.Laws.IdiomCopy
import Derived.Lib.Replace
import Derived.Lib.CountLaws
namespace Go.Proofs.YtonghiaocpenaaaGreatDoor
open Go.RowKit

def esc1 (c : UInt8) : List Int := if c = 0 then [0, 255] else [(c.toNat : Int)]
/-- A text's escaped bytes, with their end. -/
def escL (s : ByteArray) : List Int := s.data.toList.flatMap esc1 ++ [0, 1]
/-- The bytes of a text, as numbers. -/
def numL (l : List UInt8) : List Int := l.map fun c => (c.toNat : Int)

theorem replace_zero : ∀ l : List UInt8, Lib.replaceK [0] [0, 255] (Lib.count l [0]) l = l.flatMap fun c => if c = 0 then [0, 255] else [c]
  | [] => by
    rw [Lib.count_miss (by simp [Lib.index])]; rfl
  | c :: l => by
    have ih := replace_zero l
    rw [List.flatMap_cons]
    by_cases hc : c = 0
    · subst hc
      have h : Lib.index (0 :: l) [0] = (0 : Nat) := by unfold Lib.index; simp
      rw [Lib.count_hit (by simp) h, show 1 + Lib.count ((0 :: l).drop (0 + [(0 : UInt8)].length)) [0] = Lib.count l [0] + 1 from by simp; omega, Lib.replaceK_hit _ _ _ _ _ h]
      simp only [List.take_zero, List.nil_append, List.length_cons, List.length_nil, Nat.zero_add, List.drop_succ_cons, List.drop_zero, if_true]
      rw [ih]
    · rw [if_neg hc]
      have hp : ([0] : List UInt8).isPrefixOf (c :: l) = false := by
        simp [List.isPrefixOf]; exact fun h => hc h.symm
      have hge := Lib.index_ge l [0]
      by_cases hm : Lib.index l [0] = -1
      · have h : Lib.index (c :: l) [0] = -1 := by unfold Lib.index; rw [hp, hm]; rfl
        rw [Lib.count_miss hm] at ih
        rw [Lib.count_miss h]
        unfold Lib.replaceK at ih ⊢
        rw [← ih]; rfl
      · obtain ⟨i, hi⟩ : ∃ i : Nat, Lib.index l [0] = i := ⟨(Lib.index l [0]).toNat, by omega⟩
        have h : Lib.index (c :: l) [0] = (i + 1 : Nat) := by
          unfold Lib.index
          rw [hp, hi]
          have : ((i : Int) == -1) = false := by rw [beq_eq_false_iff_ne]; omega
          simp [this]
        rw [Lib.count_hit (by simp) hi, Nat.add_comm 1, Lib.replaceK_hit _ _ _ _ _ hi] at ih
        rw [Lib.count_hit (by simp) h, Nat.add_comm 1, Lib.replaceK_hit _ _ _ _ _ h]
        simp only [List.length_cons, List.length_nil, Nat.zero_add, List.drop_succ_cons, List.take_succ_cons] at ih ⊢
        rw [← ih]
        simp
theorem replace_zeros (l : List UInt8) : Lib.replaceAll l [0] [0, 255] = l.flatMap fun c => if c = 0 then [0, 255] else [c] := by
  unfold Lib.replaceAll Lib.replace Lib.replaceNum
  rw [if_neg (by decide), if_pos (.inl (by decide))]
  exact replace_zero l
theorem numL_esc : ∀ l : List UInt8, numL (l.flatMap fun c => if c = 0 then [0, 255] else [c]) = l.flatMap esc1
  | [] => rfl
  | c :: l => by
    rw [List.flatMap_cons, List.flatMap_cons, ← numL_esc l]
    unfold numL esc1
    rw [List.map_append]
    congr 1
    split <;> simp_all
theorem esc_len : ∀ l : List UInt8, (l.flatMap esc1).length ≤ 2 * l.length
  | [] => by simp
  | c :: l => by
    rw [List.flatMap_cons, List.length_append, List.length_cons]
    have := esc_len l
    have : (esc1 c).length ≤ 2 := by unfold esc1; split <;> simp
    omega
theorem count_le : ∀ l : List UInt8, Lib.count l [0] ≤ l.length
  | [] => by rw [Lib.count_miss (by simp [Lib.index])]; simp
  | c :: l => by
    have ih := count_le l
    have hge := Lib.index_ge l [0]
    by_cases hc : c = 0
    · subst hc
      have h : Lib.index (0 :: l) [0] = (0 : Nat) := by unfold Lib.index; simp
      rw [Lib.count_hit (by simp) h]
      simp; omega
    · have hp : ([0] : List UInt8).isPrefixOf (c :: l) = false := by
        simp [List.isPrefixOf]; exact fun h => hc h.symm
      by_cases hm : Lib.index l [0] = -1
      · have h : Lib.index (c :: l) [0] = -1 := by unfold Lib.index; rw [hp, hm]; rfl
        rw [Lib.count_miss h]; simp
      · obtain ⟨i, hi⟩ : ∃ i : Nat, Lib.index l [0] = i := ⟨(Lib.index l [0]).toNat, by omega⟩
        have h : Lib.index (c :: l) [0] = (i + 1 : Nat) := by
          unfold Lib.index
          rw [hp, hi]
          have : ((i : Int) == -1) = false := by rw [beq_eq_false_iff_ne]; omega
          simp [this]
        rw [Lib.count_hit (by simp) hi] at ih
        rw [Lib.count_hit (by simp) h]
        simp only [List.length_cons, List.length_nil, Nat.zero_add, List.drop_succ_cons] at ih ⊢
        omega

/-- A call hands back a slice of its own that reads as xs. -/
def OutR (xs : List Int) (w : World) (e : Ending) (w' : World) : Prop := ∃ A n cap, e = .returned (.slice A n cap) ∧ Rd 1 encB w' A n xs ∧ (A = none → cap = 0) ∧ Below w.heap.size w w'
theorem OutB.r {xs : List Int} {w : World} {e : Ending} {w' : World} (h : OutB xs w e w') : OutR xs w e w' := by
  obtain ⟨A, n, cap, he, hown, hb⟩ := h
  refine ⟨A, n, cap, he, hown.rd encB_len, fun hA => ?_, hb⟩
  rcases hown.2.2 with ⟨h2, h3⟩ | ⟨g, cap', cur, h2, _⟩
  · injection h2
  · rw [hA] at h2; cases h2

theorem only_setCells (g : Nat) : ∀ (vs : List Value) (o : Nat) (w : World), Only (fun k => k = g) w (w.setCells g o vs)
  | [], _, w => Only.refl _ w
  | v :: vs, o, w => by
    rw [World.setCells]
    have h1 : Only (fun k => k = g) w (w.setCell ⟨g, o, none⟩ v) := ⟨rfl, rfl, rfl, by simp, fun k _ hk => heap_setCell_other w ⟨g, o, none⟩ k v hk⟩
    exact h1.trans (only_setCells g vs (o + 1) _)

/-- append(b, x...), b just converted from a text. -/
theorem run_append_conv {P : Program} (t ty E : TypeId) (i : TypeInfo) (z : Value) (ht : P.underlying t = some (.slice E)) (hi : P.info? E = some i) (hz : i.zero = some z) (hsize : i.size = 1) (hby : i.bytes = 1)
    (w : World) (g : Nat) (s : List Int) (cap : Nat) (cur : Array Value) (fz : Nat × Nat) (hg : w.heap[g]? = some (.cells cur E fz)) (hfz : cur.size ≤ fz.1) (hsl : s.length ≤ cap) (hcap : cur.size = cap)
    (hcur : ∀ (j : Nat) (x : Int), s[j]? = some x → cur[j]? = some (Value.int .u8 x)) (hs : s.length ≤ 1000000)
    (nb m c : Nat) (news : List Int) (hl : news.length = m) (hm : m ≤ 1000000) (hnb : ∀ (j : Nat) (x : Int), news[j]? = some x → w.cell? ⟨nb, j, none⟩ = some (.int .u8 x)) :
    ∃ A cap' w', (Builtin.append_ #[t, t] ty #[.slice (some ⟨g, 0, none⟩) s.length cap, .slice (some ⟨nb, 0, none⟩) m c]).run P w = .ok (.slice (some A) (s.length + m) cap') w' ∧
      Rd 1 encB w' (some A) (s.length + m) (s ++ news) ∧ Only (fun k => k = g) w w' := by
  have hadd : ∀ (b j : Nat), (⟨b, 0, none⟩ : Addr).add j = ⟨b, j, none⟩ := fun b j => by unfold Addr.add; split <;> simp_all
  have hglt : g < w.heap.size := (Array.getElem?_eq_some_iff.1 hg).1
  have hnews : ∀ (j : Nat) (v : Value), (news.map (Value.int .u8))[j]? = some v → w.cell? ((⟨nb, 0, none⟩ : Addr).add j) = some v := fun j v hj => by
    rw [hadd]
    rw [List.getElem?_map] at hj
    obtain ⟨x, hx, rfl⟩ := Option.map_eq_some_iff.1 hj
    exact hnb j x hx
  have hcell : ∀ j, w.cell? ⟨g, j, none⟩ = cur[j]? := fun j => cell_of_row w g j cur E fz hg
  have h1 : ∀ u ∈ news.map (Value.int .u8), u.oneCell' = true := by
    intro u hu
    obtain ⟨x, _, rfl⟩ := List.mem_map.1 hu
    rfl
  by_cases hroom : s.length + m ≤ cap
  · have hst := run_storeCells_cells (P := P) g s.length (news.map (Value.int .u8)) 0 w (fun j hj => by
      rw [List.length_map] at hj
      rw [hcell, Nat.add_zero, Array.getElem?_eq_getElem (by omega)]; rfl) (fun j hj => by
      rw [List.length_map] at hj
      unfold World.frozen?
      simp only [hg]
      simp
      omega) h1
    have hf := run_firstCells_some (P := P) w 1 m ⟨nb, 0, none⟩ m c (news.map (Value.int .u8)) (by simp [hl]) hnews
    refine ⟨⟨g, 0, none⟩, cap, w.setCells g s.length (news.map (Value.int .u8)), ?_, ⟨by simp [hl], fun j x hj => ?_⟩, ?_⟩
    · simp only [Nat.add_zero] at hst
      simp [Builtin.append_, run_underlying ht, sizeOf, typeInfo, hi, hsize, Builtin.lenOf, hroom, hf, hadd, hst]
    · refine ⟨g, 0, rfl, by exact Nat.lt_of_lt_of_le hglt (only_setCells g _ _ _).size, fun r v hv => ?_⟩
      obtain rfl : r = 0 := by
        have := (List.getElem?_eq_some_iff.1 hv).1
        simp [encB] at this; omega
      simp [encB] at hv
      subst hv
      rw [Nat.zero_add, Nat.mul_one, Nat.add_zero]
      by_cases hjs : j < s.length
      · rw [World.cell?_setCells_out g _ _ _ _ (fun _ _ => Or.inl hjs), hcell]
        exact hcur j x (by rwa [List.getElem?_append_left hjs] at hj)
      · have hjn : j - s.length < news.length := by
          have := (List.getElem?_eq_some_iff.1 hj).1
          rw [List.length_append] at this; omega
        rw [List.getElem?_append_right (by omega)] at hj
        have := World.cell?_setCells_in g (news.map (Value.int .u8)) s.length w (fun i hi => by
          rw [List.length_map] at hi
          rw [hcell, Array.getElem?_eq_getElem (by omega)]; rfl) (j - s.length) (by simpa using hjn)
        rw [show s.length + (j - s.length) = j by omega] at this
        rw [this]
        rw [List.getElem?_eq_getElem hjn] at hj
        simp at hj ⊢
        exact hj
    · exact only_setCells _ _ _ _
  · have hgrow := run_append_grow (P := P) w t ty E i z ht hi hz ⟨g, 0, none⟩ s.length cap (s.map (Value.int .u8)) (by simp [hsize]) (fun j v hj => by
        rw [hadd, hcell]
        rw [List.getElem?_map] at hj
        obtain ⟨x, hx, rfl⟩ := Option.map_eq_some_iff.1 hj
        exact hcur j x hx) ⟨nb, 0, none⟩ m c (news.map (Value.int .u8)) (by simp [hl, hsize]) hnews (by omega) (by omega) (growslice_fits (by omega) (by rw [hby]; omega))
    refine ⟨_, _, _, hgrow, ⟨by simp [hl], fun j x hj => ?_⟩, ?_⟩
    · refine ⟨w.heap.size, 0, rfl, by simp, fun r v hv => ?_⟩
      obtain rfl : r = 0 := by
        have := (List.getElem?_eq_some_iff.1 hv).1
        simp [encB] at this; omega
      simp [encB] at hv
      subst hv
      rw [Nat.zero_add, Nat.mul_one, Nat.add_zero]
      have hsz : w.drew.heap.size = w.heap.size := rfl
      rw [← hsz, World.cell?_alloc_new]
      have hjl : j < (s ++ news).length := (List.getElem?_eq_some_iff.1 hj).1
      have e : (s.map (Value.int .u8)).toArray ++ (news.map (Value.int .u8)).toArray = ((s ++ news).map (Value.int .u8)).toArray := by simp
      rw [e, Array.getElem?_append_left (by simpa using hjl), List.getElem?_toArray, List.getElem?_map, hj]
      rfl
    · exact ((Below.refl w.heap.size w.drew |> fun h => (⟨rfl, rfl, rfl, Nat.le_refl _, fun _ _ => rfl⟩ : Below w.heap.size w w.drew).trans ((h.alloc (Nat.le_refl _) _))).only _)

/-- A bound that Go's library keeps in a variable is there. -/
def MaxAt (w : World) : Prop := ∃ m, w.cell? ⟨2, 0, none⟩ = some (.int .i64 m)
theorem MaxAt.below {w w' : World} (h : MaxAt w) (hb : Below w.heap.size w w') : MaxAt w' := by
  obtain ⟨m, hm⟩ := h
  exact ⟨m, below_cell hb (Nat.le_refl _) hm⟩
theorem esc_of (s : ByteArray) : escL s = s.data.toList.flatMap esc1 ++ [0, 1] := rfl

set_option maxHeartbeats 1000000 in
set_option maxRecDepth 20000 in
theorem escaped_calls (s : ByteArray) (w : World) (hs : s.size ≤ 100000) (hM : MaxAt w) : Calls Tryz.prog 71 #[.string s] w (OutR (escL s) w) := by
  obtain ⟨m, hm⟩ := hM
  obtain ⟨i0, hi, hz0, hz1, hz2⟩ := info_parts infoByte
  have hsl : s.data.toList.length = s.size := (Lib.size_eq s).symm
  have hrep := Tryz.strings_ReplaceAll s ⟨#[0]⟩ ⟨#[0, 255]⟩ m w (by omega) hm (by decide) (by
    have : Lib.countB s ⟨#[0]⟩ ≤ s.size := by
      unfold Lib.countB
      rw [← hsl]
      exact count_le s.data.toList
    have e : (⟨#[0, 255]⟩ : ByteArray).size = 2 := rfl
    rw [e]; omega)
  have hz := replace_zeros s.data.toList
  obtain ⟨r, hr, hrl⟩ : ∃ r : ByteArray, r = ⟨(Lib.replaceAll s.data.toList (⟨#[0]⟩ : ByteArray).data.toList (⟨#[0, 255]⟩ : ByteArray).data.toList).toArray⟩ ∧ numL r.data.toList = s.data.toList.flatMap esc1 :=
    ⟨_, rfl, by rw [← numL_esc, ← hz]⟩
  rw [← hr] at hrep
  have hsm := esc_len s.data.toList
  rw [← hrl, hsl] at hsm
  have hrs : (numL r.data.toList).length = r.size := by unfold numL; rw [List.length_map]; exact (Lib.size_eq r).symm
  rw [esc_of, ← hrl]
  clear hr hz
  have HREP := Lib.hid hrep
  clear hrep
  go_enter Tryz.func71, Tryz.ntmps71
  go_wp2_with fail
  go_wp2_with (go_at_call 82; refine HREP.out.mono ?_; rintro e w1 ⟨rfl, hb1⟩)
  have hcv := Lib.run_convert_string_bytes (P := Tryz.prog) w1 9 29 5 r (u := .string) Tryz.underlying9 Tryz.underlying29 Tryz.underlying5
  have hb2 := Lib.bytesWorld_below w1 5 r
  have hg2 := Lib.bytesWorld_at_new w1 5 r
  have hs2 := Lib.bytesWorld_size w1 5 r
  have hcur : ∀ (j : Nat) (x : Int), (numL r.data.toList)[j]? = some x → (Lib.bytesCells w1 5 r)[j]? = some (Value.int .u8 x) := by
    intro j x hj
    have hjl := (List.getElem?_eq_some_iff.1 hj).1
    rw [hrs] at hjl
    have := Lib.bytesWorld_cell w1 5 r j hjl
    rw [cell_of_row _ _ _ _ _ _ hg2] at this
    rw [this]
    unfold numL at hj
    rw [List.getElem?_map] at hj
    obtain ⟨c, hc, rfl⟩ := Option.map_eq_some_iff.1 hj
    rw [List.getD_eq_getElem?_getD, hc]
    rfl
  have hcs : (Lib.bytesCells w1 5 r).size = grownCap w1 r.size 0 5 := by
    have := grownCap_ge w1 r.size 0 5
    have h3 : r.data.size = r.size := rfl
    simp [Lib.bytesCells, h3]
    omega
  have hge := grownCap_ge w1 r.size 0 5
  generalize Lib.bytesWorld w1 5 r = W2 at hcv hb2 hg2 hs2
  generalize Lib.bytesCells w1 5 r = cur at hg2 hcur hcs
  generalize grownCap w1 r.size 0 5 = cap at hcv hcs hge
  have hg3 : (W2.alloc (.cells #[.int .u8 0, .int .u8 1] 5)).heap[w1.heap.size]? = some (.cells cur 5 (cur.size, cur.size + 1)) := by
    rw [heap_alloc_old _ _ (by omega)]; exact hg2
  obtain ⟨A, cap', w', hap, hrd, honly⟩ := run_append_conv 29 29 5 i0 _ Tryz.underlying29 hi hz0 hz1 hz2 (W2.alloc (.cells #[.int .u8 0, .int .u8 1] 5)) w1.heap.size (numL r.data.toList) cap cur _ hg3 (Nat.le_refl _) (by omega) hcs hcur (by omega)
    (w1.heap.size + 1) 2 2 [0, 1] rfl (by omega) (fun j x hj => by
      rw [← hs2, World.cell?_alloc_new]
      rcases j with _ | _ | j
      · simp at hj; subst hj; rfl
      · simp at hj; subst hj; rfl
      · simp at hj)
  rw [hrs] at hap hrd
  have hbw : Below w.heap.size w w' := by
    have h1 : Below w1.heap.size w1 (W2.alloc (.cells #[.int .u8 0, .int .u8 1] 5)) := hb2.alloc (by omega) _
    exact hb1.trans ((h1.trans (honly.below (by simp; omega) (fun i hi => by omega))).mono hb1.size)
  have HRD := Lib.hid hrd
  have HBW := Lib.hid hbw
  have HS2 := Lib.hid hs2
  clear hrd hbw hb2 hg2 hcur hg3 honly hb1 hm
  go_wp2
  rw [hcv]
  go_wp2_with (at_builtin; refine Lib.wpList_append_run _ rfl (.tmp 7) (.tmp 8) 29 29 rfl _ _ rfl rfl _ _ hap ?_)
  go_wp2
  go_ret
  exact ⟨some A, r.size + 2, cap', rfl, HRD.out, (fun h => by cases h), HBW.out⟩
end Go.Proofs.YtonghiaocpenaaaGreatDoor
