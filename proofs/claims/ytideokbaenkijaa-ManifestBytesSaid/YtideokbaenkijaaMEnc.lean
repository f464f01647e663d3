/-
  manifest.Same, manifest.Encode.
-/
import Derived.Test.YtideokbaenkijaaMRight
namespace Go.Proofs.Ytideokbaenkijaa
open Go.RowKit

theorem encN_one (x : Int) : ∀ u ∈ encN x, u.oneCell' = true := by
  intro u hu
  simp only [encN, List.mem_cons, List.not_mem_nil, or_false] at hu
  subst hu; rfl
/-- append(out, l...) of ints. -/
theorem app_ints {w : World} {ops : Array Oper} {rest : List Oper} {o : Oper} {a : Act} {Q : Exit → Act → World → Prop} (hgd : o.guard = none) (s x : Operand)
    (ho : o.op = .call { callee := .builtin .append, args := #[s, x], argTypes := #[22, 22] })
    {base n cap m cm : Nat} {A B : Option Addr} {xs ys : List Int} (hs : a.eval s = .slice A n cap) (hown : OwnN w base A n cap xs) (hx : a.eval x = .slice B m cm) (hB : B = none → cm = 0) (hy : RdN w B m ys) (hn : n + m ≤ 100000000) (hbase : base ≤ w.heap.size)
    (h : ∀ A' cap' w', OwnN w' base A' (n + m) cap' (xs ++ ys) → Only (fun k => A = some ⟨k, 0, none⟩) w w' → (∀ g, A' = some ⟨g, 0, none⟩ → A = some ⟨g, 0, none⟩ ∨ w.heap.size ≤ g) → (A' = none → A = none) →
      wpList Try.prog ops Q rest (a.put o.dst (.slice A' (n + m) cap')) w') : wpList Try.prog ops Q (o :: rest) a w := by
  obtain ⟨i0, hi, hz0, hz1, hz2⟩ := info_parts infoInt
  exact append_all hgd s x 22 ho i0 _ 8 Try.underlying22 hi hz0 hz1 hz2 rfl (by omega) encN_len encN_one hs hown hx hB hy (by omega) (by unfold maxLen; omega) hbase h
theorem own_ints {w : World} {base : Nat} {cs : Array Value} {xs : List Int} (hx : cs.toList = xs.map (Value.int .i64)) (hb : base ≤ w.heap.size) (hs : xs.length ≤ 1000000) : OwnN (w.alloc (.cells cs 3)) base (some ⟨w.heap.size, 0, none⟩) xs.length xs.length xs := by
  have hl : cs.size = xs.length := by rw [← Array.length_toList, hx, List.length_map]
  refine ⟨rfl, by rw [flatN]; simp, .inr ⟨w.heap.size, xs.length, cs, rfl, hb, by rw [heap_alloc_new], Nat.le_refl _, by unfold maxLen; omega, by omega, ?_⟩⟩
  rw [flatN, ← hx, List.take_of_length_le (by rw [Array.length_toList]; omega)]

/-- A state as a value. -/
abbrev StateD.v (s : StateD) (A : Option Addr) (k c : Nat) : Value := .agg #[.int .i64 s.gen, .int .i64 s.app, .int .i64 s.next, .slice A k c]
abbrev StateD.cells (s : StateD) (A : Option Addr) (k c : Nat) : Array Value := #[.int .i64 s.gen, .int .i64 s.app, .int .i64 s.next, .slice A k c]
theorem nums_bound {s : StateD} (h : rightS s = true) : ∀ x ∈ numsS s, 0 ≤ x ∧ x < 9223372036854775808 := fun n hn => by
  have k := right_iff.1 h
  unfold numsS at hn
  simp only [List.mem_cons] at hn
  rcases hn with rfl | rfl | rfl | rfl | hn
  · have := k.g0; have := k.g1; omega
  · have := k.a0; have := k.a1; omega
  · have := k.n0; have := k.n1; omega
  · have := k.few; omega
  · have := k.low n hn; have := k.high n hn; have := k.n1; omega
/-- Encode's answer. -/
def EncOut (s : StateD) (w : World) (e : Ending) (w' : World) : Prop := Below w.heap.size w w' ∧ ((rightS s = false ∧ e = .returned (.tuple #[.slice none 0 0, .bool false])) ∨
  (rightS s = true ∧ ∃ B m cap, e = .returned (.tuple #[.slice B m cap, .bool true]) ∧ OwnB w' w.heap.size B m cap (bytesS s)))

set_option maxHeartbeats 4000000 in
set_option maxRecDepth 20000 in
theorem encm_calls (s : StateD) (A : Option Addr) (k c : Nat) (w : World) (h : RdN w A k s.tabs) (hA : A = none → c = 0) (hk : k ≤ 1000000000) :
    Calls Try.prog 8 #[s.v A k c] w (EncOut s w) := by
  have HLN := Lib.hid h.len
  obtain ⟨hbx, cv⟩ := one_box w (s.cells A k c) 29
  have b0 := cv 0 _ rfl
  have b1 := cv 1 _ rfl
  have b2 := cv 2 _ rfl
  have b3 := cv 3 _ rfl
  have h := h.below hbx
  have HBX := Lib.hid hbx
  have HR := Lib.hid (right_calls s A k c _ h hk)
  have HH := Lib.hid h
  have HA := Lib.hid hA
  clear cv hbx h hA
  go_enter Try.func8, Try.ntmps8
  go_wp2_with fail
  refine HR.out.mono ?_
  rintro e w1 ⟨rfl, hb1⟩
  have HB1 := Lib.hid (HBX.out.trans (hb1.mono HBX.out.size))
  have d0 := below_cell hb1 (Nat.le_refl _) b0
  have d1 := below_cell hb1 (Nat.le_refl _) b1
  have d2 := below_cell hb1 (Nat.le_refl _) b2
  have d3 := below_cell hb1 (Nat.le_refl _) b3
  have H1 := Lib.hid (HH.out.below hb1)
  clear b0 b1 b2 b3 hb1 HH HR
  cases hr : rightS s with
  | false =>
    have HRF := Lib.hid hr
    clear hr
    go_wp2_with fail
    go_ret2
    exact ⟨HB1.out, .inl ⟨HRF.out, rfl⟩⟩
  | true =>
    have HRT := Lib.hid (right_iff.1 hr)
    have HRB := Lib.hid hr
    have hk50 : k ≤ 50 := by have := HRT.out.few; have := HLN.out; omega
    clear hr
    have hlit : Below w1.heap.size w1 (w1.alloc (.cells #[.int .i64 s.gen, .int .i64 s.app, .int .i64 s.next, .int .i64 (k : Int)] 3)) := (Below.refl _ _).alloc (Nat.le_refl _) _
    have j3 := below_cell hlit (Nat.le_refl _) d3
    have HLO : Hid (OwnN (w1.alloc (.cells #[.int .i64 s.gen, .int .i64 s.app, .int .i64 s.next, .int .i64 (k : Int)] 3)) w1.heap.size (some ⟨w1.heap.size, 0, none⟩) 4 4 [s.gen, s.app, s.next, (k : Int)]) := own_ints (xs := [s.gen, s.app, s.next, (k : Int)]) rfl (Nat.le_refl _) (by simp)
    have H2 := Lib.hid (H1.out.below hlit)
    have HLIT := Lib.hid hlit
    clear hlit
    go_wp2_with (at_builtin; refine app_ints rfl (.tmp 19) (.tmp 21) rfl rfl HLO.out rfl HA.out H2.out (by omega) HLIT.out.size ?_; intro A' cap' w4 h1 h2 h3 h4)
    have hnums : [s.gen, s.app, s.next, (k : Int)] ++ s.tabs = numsS s := by unfold numsS; rw [← HLN.out]; rfl
    rw [hnums] at h1
    have HO4 := Lib.hid h1
    have HRD := Lib.hid (h1.rd encN_len)
    have HB4 := Lib.hid (HB1.out.trans ((HLIT.out.mono (Nat.le_refl _)).trans (h2.below HLIT.out.size (fun i hi => by injection hi with hi; injection hi with hi; omega)) |>.mono HB1.out.size))
    clear h1 h2 h3 h4 hnums HLO H2 HLIT H1 j3 d0 d1 d2 d3
    have hnb : ∀ x ∈ numsS s, 0 ≤ x ∧ x < 9223372036854775808 := nums_bound HRB.out
    have HNB := Lib.hid hnb
    have hnl : (numsS s).length = 4 + k := by unfold numsS; simp only [List.length_cons]; have := HLN.out; omega
    have HNL := Lib.hid hnl
    clear hnb hnl
    go_wp2_with fail
    go_loopw [4, 24] (fun ov iv wr => ∃ (i m cap : Nat) (O : Option Addr), i ≤ 4 + k ∧ m ≤ 9 * i ∧ iv = .int .i64 i ∧ ov = .slice O m cap ∧ Hid (OwnB wr w4.heap.size O m cap (vlqs ((numsS s).take i))) ∧ Hid (Below w4.heap.size w4 wr)) (fun _ iv _ => 4 + k - (intOf iv).toNat)
    case atStart => exact ⟨0, 0, 0, none, Nat.zero_le _, Nat.zero_le _, rfl, rfl, Own.nil _ _ _ _ _, Below.refl _ _⟩
    case round =>
      obtain ⟨i, m, cap, O, hi, hm, rfl, rfl, HOW, HB⟩ := hrel
      by_cases hlt : i < 4 + k
      · obtain ⟨x, b, o, hx, rfl, _, hc0⟩ := (HRD.out.below HB.out).get i hlt
        have c0 := hc0 0 _ rfl
        simp only [Nat.mul_one, Nat.add_zero] at c0
        obtain ⟨v, rfl⟩ : ∃ v : Nat, x = v := ⟨x.toNat, by have := HNB.out x (List.mem_of_getElem? hx); omega⟩
        have hv : v < 9223372036854775808 := by have := HNB.out _ (List.mem_of_getElem? hx); omega
        have HV := Lib.hid (vlq_small hv)
        have HNM := Lib.hid (num_calls v wr hv)
        have htk : vlqs ((numsS s).take (i + 1)) = vlqs ((numsS s).take i) ++ vlq v := by
          rw [take_at hx]; unfold vlqs; rw [List.flatMap_append]; simp
        have HTK := Lib.hid htk
        clear hc0 hx htk hv
        go_wp2_with fail
        refine HNM.out.mono ?_
        rintro e w5 ⟨B5, m5, c5, rfl, ho5, hb5⟩
        have HO5 := Lib.hid (ho5.rd encB_len)
        have HN5 := Lib.hid (own_nil_cap ho5)
        have hm5 : m5 ≤ 9 := by rw [ho5.1]; exact HV.out
        have HOW5 := Lib.hid (HOW.out.below hb5)
        have HB5 := Lib.hid (HB.out.trans (hb5.mono HB.out.size))
        clear ho5 hb5 HNM HOW
        go_wp2_with (at_builtin; refine app_bytes rfl (.tmp 28) (.tmp 30) rfl rfl HOW5.out rfl HN5.out HO5.out (by omega) HB5.out.size ?_; intro A6 cap6 w6 q1 q2 q3 q4)
        rw [← HTK.out] at q1
        have HB6 := Lib.hid (HB5.out.trans (q2.below HB5.out.size (own_above HOW5.out)))
        refine ⟨⟨i + 1, m + m5, cap6, A6, by omega, by omega, by go_num, rfl, q1, HB6.out⟩, ?_⟩
        simp [intOf]; omega
      · have hall : (numsS s).take i = numsS s := List.take_of_length_le (by rw [HNL.out]; omega)
        rw [hall] at HOW
        clear hall
        have HBF := Lib.hid (HB4.out.trans (HB.out.mono HB4.out.size))
        go_wp2_with fail
        go_ret2
        exact ⟨HBF.out, .inr ⟨HRB.out, O, m, cap, rfl, HOW.out.lower HB4.out.size⟩⟩
/-- Same's answer. -/
theorem neq_calls (A B : Option Addr) (k l c d : Nat) (xs ys : List Int) (w : World) (h : RdN w A k xs) (h2 : RdN w B l ys) (hk : k ≤ 1000000000) (hl : l ≤ 1000000000) :
    Calls Try.prog 54 #[.slice A k c, .slice B l d] w fun e w' => e = .returned (.bool (decide (xs = ys))) ∧ Below w.heap.size w w' := by
  by_cases hkl : k = l
  · subst hkl
    rcases Nat.eq_zero_or_pos k with h0 | h0
    · subst h0
      have e1 : xs = [] := List.eq_nil_of_length_eq_zero h.len.symm
      have e2 : ys = [] := List.eq_nil_of_length_eq_zero h2.len.symm
      subst e1 e2
      refine (Try.slices_Equal_int_empty A B c 0 d w (by omega)).mono ?_
      rintro e w' ⟨rfl, rfl⟩
      exact ⟨rfl, Below.refl _ _⟩
    · obtain ⟨b1, o1, rfl, _⟩ := rdn_some h h0
      obtain ⟨b2, o2, rfl, _⟩ := rdn_some h2 h0
      have hcell : ∀ {b o : Nat} {zs : List Int}, RdN w (some ⟨b, o, none⟩) k zs → ∀ j, j < zs.length → w.cell? ⟨b, o + j, none⟩ = some (.int .i64 (zs.getD j 0)) := fun {b o zs} hz j hj => by
        obtain ⟨q, b', o', hd, e, _, h4⟩ := hz.get j (by rw [hz.len]; exact hj)
        injection e with e
        injection e with e1 e2 _
        subst e1 e2
        have := h4 0 _ rfl
        rw [List.getD_eq_getElem?_getD, hd]
        simpa using this
      refine (Try.slices_Equal_int b1 o1 k c b2 o2 k d xs ys w (by rw [h.len]; exact Nat.le_refl _) (by rw [h2.len]; exact Nat.le_refl _) (by omega) (by omega) (hcell h) (hcell h2)).mono ?_
      rintro e w' ⟨rfl, q, rfl⟩
      refine ⟨ret_bool ?_, drewN_below w q⟩
      rw [List.take_of_length_le (by rw [h.len]; exact Nat.le_refl _), List.take_of_length_le (by rw [h2.len]; exact Nat.le_refl _)]
      rw [Bool.eq_iff_iff, beq_iff_eq, decide_eq_true_eq]
  · refine (Try.slices_Equal_int_lens A B k c l d w hkl).mono ?_
    rintro e w' ⟨rfl, rfl⟩
    exact ⟨ret_bool (decide_eq_false fun e => hkl (by rw [h.len, h2.len, e])).symm, Below.refl _ _⟩
end Go.Proofs.Ytideokbaenkijaa
