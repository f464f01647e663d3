/-
  slices.DeleteFunc with forget's closure.
-/
import Derived.Test.YtideokbaenkijaaSIdx
import Derived.Test.YtideokbaenkijaaSOwn
namespace Go.Proofs.Ytideokbaenkijaa
open Go.RowKit

theorem rest_app (id : Nat) (a b : List (Nat × Nat)) : restD id (a ++ b) = restD id a ++ restD id b := by unfold restD; rw [List.filter_append]
theorem rest_all {id : Nat} {l : List (Nat × Nat)} (h : ∀ p ∈ l, p.1 ≠ id) : restD id l = l := List.filter_eq_self.2 fun p hp => by simpa using h p hp
theorem rest_len (id : Nat) (l : List (Nat × Nat)) : (restD id l).length ≤ l.length := List.length_filter_le _ _
theorem take_get {α : Type} {l : List α} {k : Nat} {p : α} (h : l[k]? = some p) : l.take (k + 1) = l.take k ++ [p] := by rw [List.take_add_one, h]; rfl
theorem drop_get {α : Type} {l : List α} {k : Nat} {p : α} (h : l[k]? = some p) : l.drop k = p :: l.drop (k + 1) := by
  have h3 := (List.getElem?_eq_some_iff.1 h).1
  rw [List.drop_eq_getElem_cons h3]
  rw [List.getElem?_eq_getElem h3] at h
  rw [Option.some.inj h]
/-- No file lies where a row of writes does. -/
theorem own_alive {w : World} {g n cap k : Nat} {l : List (Nat × Nat)} (h : OwnW w 0 (some ⟨g, 0, none⟩) n cap l) (ha : Alive w k) : k ≠ g := by
  rintro rfl
  obtain ⟨cs, ha⟩ := ha
  obtain ⟨_, _, h2 | ⟨g', cap', cur, h3, _, h5, _⟩⟩ := h
  · obtain ⟨h2, _⟩ := h2
    injection h2 with h2
    cases h2
  · injection h3 with h3
    injection h3 with h3
    injection h3 with h3
    subst h3
    rw [ha] at h5
    injection h5 with h5
    injection h5 with _ h5
    exact absurd h5 (by decide)
theorem Alive.only {w w' : World} {k : Nat} {S : Nat → Prop} (h : Alive w k) (ho : Only S w w') (hS : ¬ S k) : Alive w' k := by
  obtain ⟨cs, h⟩ := h
  exact ⟨cs, (ho.block k (Array.getElem?_eq_some_iff.1 h).1 hS).trans h⟩
theorem own_setw {w : World} {base g n cap : Nat} {xs : List (Nat × Nat)} (h : OwnW w base (some ⟨g, 0, none⟩) n cap xs) (i : Nat) (x y : Nat × Nat) (hi : xs[i]? = some y) :
    OwnW ((w.setCell ⟨g, i * 2, none⟩ (.pointer (some ⟨x.1, 0, none⟩))).setCell ⟨g, i * 2 + 1, none⟩ (.int .i64 x.2)) base (some ⟨g, 0, none⟩) n cap (xs.set i x) ∧
    Only (fun k => k = g) w ((w.setCell ⟨g, i * 2, none⟩ (.pointer (some ⟨x.1, 0, none⟩))).setCell ⟨g, i * 2 + 1, none⟩ (.int .i64 x.2)) := by
  have hlt := (List.getElem?_eq_some_iff.1 hi).1
  have h1 := own_set encW_len h i 0 (x.1, y.2) y (.pointer (some ⟨x.1, 0, none⟩)) hi (by omega) rfl
  have h2 := own_set encW_len h1.1 i 1 x (x.1, y.2) (.int .i64 x.2) (by simp [hlt]) (by omega) rfl
  rw [List.set_set] at h2
  exact ⟨h2.1, (only_setCell w ⟨g, i * 2, none⟩ _).trans (only_setCell _ ⟨g, i * 2 + 1, none⟩ _)⟩
theorem zeroW (w : World) : (zeroValue 86).run Try.prog w = .ok (.agg #[.pointer none, .int .i64 0]) w := by kernel_rfl
/-- So far the row has been gone through. -/
structure DelAt (id g n cap : Nat) (l : List (Nat × Nat)) (w wr : World) (a b : Nat) : Prop where
  own : ∃ M, M.length = b - a ∧ OwnW wr 0 (some ⟨g, 0, none⟩) n cap (restD id (l.take b) ++ M ++ l.drop b)
  len : (restD id (l.take b)).length = a
  only : Only (fun k => k = g) w wr

set_option maxHeartbeats 2000000 in
set_option maxRecDepth 20000 in
theorem delf_calls (A : Option Addr) (n cap x id : Nat) (l : List (Nat × Nat)) (w : World) (h : OwnW w 0 A n cap l) (hx : w.cell? ⟨x, 0, none⟩ = some (.pointer (some ⟨id, 0, none⟩))) (hxg : A ≠ some ⟨x, 0, none⟩) (h1 : ∀ p ∈ l, Alive w p.1) (h2 : Alive w id) (hn : n ≤ 1000000) :
    Calls Try.prog 78 #[.slice A n cap, delF x] w fun e w' => (∃ m, e = .returned (.slice A m cap) ∧ OwnW w' 0 A m cap (restD id l)) ∧ Only (fun k => A = some ⟨k, 0, none⟩) w w' := by
  have HI := Lib.hid (idx_calls A n cap x id l w (h.rd encW_len) hx h1 h2 hn)
  have HO := Lib.hid h
  have HX := Lib.hid hx
  have HXG := Lib.hid hxg
  have H1 := Lib.hid h1
  have H2 := Lib.hid h2
  have HL := Lib.hid h.1
  have HRM := Lib.hid (own_room h)
  clear h hx h1 h2 hxg
  go_enter Try.func78, Try.ntmps78
  go_wp2_with fail
  refine HI.out.mono ?_
  clear HI
  rintro e w1 ⟨hf, hb⟩
  have HB := Lib.hid hb
  rcases hf with ⟨k, rfl, hnk, p, hp, hpi⟩ | ⟨rfl, hno⟩
  · obtain ⟨g, rfl⟩ : ∃ g, A = some ⟨g, 0, none⟩ := by
      rcases HO.out.shape with ⟨_, hl⟩ | ⟨g, hA, _⟩
      · rw [hl] at hp; simp at hp
      · exact ⟨g, hA⟩
    have hk := (List.getElem?_eq_some_iff.1 hp).1
    rw [← HL.out] at hk
    have hg : g < w.heap.size := by
      rcases HO.out.shape with ⟨hA, _⟩ | ⟨q, hA, _, hq⟩
      · cases hA
      · injection hA with hA; injection hA with hA; omega
    have HNE := Lib.hid (fun p (hp : p ∈ l) => own_alive HO.out (H1.out p hp))
    have HNI := Lib.hid (own_alive HO.out H2.out)
    have HG := Lib.hid hg
    have HP := Lib.hid hp
    have HPI := Lib.hid hpi
    have HNK := Lib.hid hnk
    have hk0 : ((k : Int) == -1) = false := by simp
    clear hb hp hpi hnk hg
    go_wp2_with fail
    go_loopw [5, 6] (fun i j wr => ∃ a b : Nat, i = .int .i64 a ∧ j = .int .i64 b ∧ a < b ∧ b ≤ n ∧ Hid (DelAt id g n cap l w wr a b)) (fun _ j _ => n - (intOf j).toNat)
    case atStart =>
      refine ⟨k, k + 1, rfl, rfl, by omega, by omega, ?_⟩
      have hr : restD id (l.take (k + 1)) = l.take k := by
        rw [take_get HP.out, rest_app, rest_all HNK.out]
        simp [restD, HPI.out]
      refine ⟨⟨[p], by simp, ?_⟩, ?_, HB.out.only _⟩
      · rw [hr, List.append_assoc, List.singleton_append, ← drop_get HP.out, List.take_append_drop]
        exact HO.out.below HB.out
      · rw [hr, List.length_take]; have := HL.out; omega
    case round =>
      clear HO HB
      obtain ⟨a, b, rfl, rfl, hab, hbn, HD⟩ := hrel
      obtain ⟨⟨M, hM, ho⟩, hlen, hon⟩ := HD.out
      have HO := Lib.hid ho
      have HM := Lib.hid hM
      have HLN := Lib.hid hlen
      have HON := Lib.hid hon
      clear HD ho hM hlen hon
      have hfz : ∀ j, wr.frozen? ⟨g, j, none⟩ = false := HO.out.2.frozenAt
      have HFZ := Lib.hid hfz
      clear hfz
      by_cases hlt : b < n
      · have hb2 : ∃ q, l[b]? = some q := ⟨_, List.getElem?_eq_getElem (by have := HL.out; omega)⟩
        obtain ⟨q, hq⟩ := hb2
        have HQ := Lib.hid hq
        obtain ⟨q', bb, off, hq1, hA, _, c0, c1⟩ := rdw (HO.out.rd encW_len) b hlt
        have hq2 : q' = q := by
          rw [List.getElem?_append_right (by rw [List.length_append, HLN.out, HM.out]; omega), List.length_append, HLN.out, HM.out, List.getElem?_drop] at hq1
          rw [show b + (b - (a + (b - a))) = b by omega, HQ.out] at hq1
          exact (Option.some.inj hq1).symm
        subst hq2
        injection hA with hA
        injection hA with e1 e2 _
        subst e1; subst e2
        simp only [Nat.zero_add] at c0 c1
        clear hq hq1
        have hgw : g < wr.heap.size := by have := HG.out; have := HON.out.size; omega
        have HGW := Lib.hid hgw
        clear hgw
        go_wp2_with fail
        obtain ⟨hbv, cv⟩ := one_box wr #[.pointer (some ⟨q'.1, 0, none⟩), .int .i64 q'.2] 86
        have hmq := List.mem_of_getElem? HQ.out
        have HC := Lib.hid (del_calls q' x id _ (below_cell hbv (Nat.le_refl _) (HON.out.cell HX.out (fun e => HXG.out (by rw [← e])))) (((H1.out q' hmq).only HON.out (HNE.out q' hmq)).below hbv) ((H2.out.only HON.out HNI.out).below hbv))
        have HV0 := Lib.hid (cv 0 _ rfl)
        have HV1 := Lib.hid (cv 1 _ rfl)
        have HBV := Lib.hid hbv
        clear hbv cv hmq c0 c1
        refine HC.out.mono ?_
        clear HC
        rintro e w2 ⟨rfl, hb2⟩
        have v0 := below_cell hb2 (Nat.le_refl _) HV0.out
        have v1 := below_cell hb2 (Nat.le_refl _) HV1.out
        have HB2 := Lib.hid (HBV.out.trans (hb2.mono HBV.out.size))
        clear hb2 HBV HV0 HV1
        have HO2 := Lib.hid (HO.out.below HB2.out)
        have HON2 := Lib.hid (HON.out.trans (HB2.out.only _))
        by_cases he : q'.1 = id
        · have HE := Lib.hid he
          rw [decide_eq_true he]
          clear he
          go_wp2
          go_roundw
          case rel =>
            refine ⟨a, b + 1, rfl, by go_num, by omega, by omega, ⟨M ++ [q'], ?_, ?_⟩, ?_, HON2.out⟩
            · rw [List.length_append, HM.out, List.length_singleton]; omega
            · have := HO2.out
              rw [drop_get HQ.out] at this
              rw [take_get HQ.out, rest_app, show restD id [q'] = [] by simp [restD, HE.out]]
              simpa using this
            · rw [take_get HQ.out, rest_app, show restD id [q'] = [] by simp [restD, HE.out], List.append_nil]
              exact HLN.out
          case measure => simp [intOf]; omega
        · have HE := Lib.hid he
          have fz2 : ∀ j, w2.frozen? ⟨g, j, none⟩ = false := HO2.out.2.frozenAt
          have hrm := HRM.out
          rw [decide_eq_false he]
          obtain ⟨d0, d1⟩ : (∃ u, w2.cell? ⟨g, a * 2, none⟩ = some u) ∧ (∃ u, w2.cell? ⟨g, a * 2 + 1, none⟩ = some u) := by
            obtain ⟨p, bb, off, _, hA, _, k0, k1⟩ := rdw (HO2.out.rd encW_len) a (by omega)
            injection hA with hA
            injection hA with e1 e2 _
            subst e1; subst e2
            simp only [Nat.zero_add] at k0 k1
            exact ⟨⟨_, k0⟩, ⟨_, k1⟩⟩
          obtain ⟨u0, d0⟩ := d0
          obtain ⟨u1, d1⟩ := d1
          clear he
          go_wp2
          go_roundw
          case rel =>
            have hml := HM.out
            obtain ⟨m0, M', rfl⟩ := List.exists_cons_of_length_pos (l := M) (by omega)
            have hs := own_setw HO2.out a q' m0 (by
              rw [List.append_assoc, List.getElem?_append_right (by rw [HLN.out]; omega), HLN.out, Nat.sub_self]; rfl)
            refine ⟨a + 1, b + 1, by go_num, by go_num, by omega, by omega, ⟨M' ++ [q'], ?_, ?_⟩, ?_, HON2.out.trans hs.2⟩
            · rw [List.length_cons] at hml
              rw [List.length_append, List.length_singleton]; omega
            · have h3 := hs.1
              rw [drop_get HQ.out] at h3
              rw [take_get HQ.out, rest_app, show restD id [q'] = [q'] by simp [restD, HE.out]]
              rw [List.append_assoc, List.set_append_right _ _ (by rw [HLN.out]; omega), HLN.out, Nat.sub_self] at h3
              simpa using h3
            · rw [take_get HQ.out, rest_app, show restD id [q'] = [q'] by simp [restD, HE.out], List.length_append, HLN.out]
              rfl
          case measure => simp [intOf]; omega
      · obtain rfl : b = n := by omega
        have hle : l.take b = l := List.take_of_length_le (by have := HL.out; omega)
        rw [hle] at HO HLN
        have hd : l.drop b = [] := List.drop_of_length_le (by have := HL.out; omega)
        rw [hd, List.append_nil] at HO
        have hO2 := own_take encW_len HO.out a (by omega)
        rw [List.take_left' HLN.out] at hO2
        have hcl : ∀ ty, (Builtin.clear_ #[74] ty #[.slice (some ⟨g, a * 2, none⟩) (b - a) (cap - a)]).run Try.prog wr = .ok (.tuple #[]) (wr.setCells g (a * 2) ((List.replicate (b - a) [.pointer none, .int .i64 0]).flatten)) := fun ty =>
          run_clear2 wr _ _ ty _ _ _ Try.underlying74 zeroW rfl rfl rfl g (a * 2) (b - a) (cap - a) (by omega) (fun j hj => by
            have h5 := HO.out.2.cellAt (a * 2 + j) (by omega)
            rw [h5, List.getElem?_eq_getElem (by rw [flat_len encW_len, ← HO.out.1]; omega)]
            rfl) (fun j _ => HFZ.out _)
        have HOT := Lib.hid (own_out encW_len ((List.replicate (b - a) [Value.pointer none, .int .i64 0]).flatten) (a * 2) wr hO2 (Nat.le_refl _))
        have HON3 := Lib.hid (HON.out.trans HOT.out.2)
        clear hO2
        have hrm := HRM.out
        go_wp2_with fail
        go_ret
        exact ⟨⟨a, rfl, HOT.out.1⟩, HON3.out.mono fun i _ hi => by rw [hi]⟩
  · have HN := Lib.hid hno
    have hk0 : ((-1 : Int) == -1) = true := rfl
    clear hb hno
    go_wp2
    go_ret
    exact ⟨⟨n, rfl, by rw [rest_all HN.out]; exact HO.out.below HB.out⟩, HB.out.only _⟩
end Go.Proofs.Ytideokbaenkijaa
