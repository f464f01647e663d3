/-
  cell.Sort: cells in order, each place once.
-/
import Derived.Test.YtndmlldaebdnmaaDoorWStab
import Derived.Test.YtndmlldaebdnmaaDoorWSeen
namespace Go.Proofs.YtndmlldaebdnmaaDoor
open Go.RowKit

set_option maxHeartbeats 1000000 in
set_option maxRecDepth 20000 in
theorem ins_nil (A : Option Addr) (n cap : Nat) (w : World) : Calls Tryd.prog 51 #[.slice A n cap, .int .i64 0, .int .i64 0, ordF] w fun e w' => e = .returned (.tuple #[]) ∧ w = w' := by
  go_enter Tryd.func51, Tryd.ntmps51
  go_wp2_with fail
  refine wp_loop_rounds 1 ?_; rw [rounds_succ]
  go_wp2
  go_end0
  exact ⟨rfl, rfl⟩
set_option maxHeartbeats 1000000 in
set_option maxRecDepth 20000 in
theorem stab_nil (A : Option Addr) (cap : Nat) (w : World) : Calls Tryd.prog 35 #[.slice A 0 cap, .int .i64 0, ordF] w fun e w' => e = .returned (.tuple #[]) ∧ w = w' := by
  go_enter Tryd.func35, Tryd.ntmps35
  go_wp2_with fail
  refine wp_loop_rounds 1 ?_; rw [rounds_succ]
  go_wp2_with (go_at_call 51; refine (ins_nil _ _ _ _).mono ?_; rintro e w' ⟨rfl, rfl⟩)
  refine wp_loop_rounds 1 ?_; rw [rounds_succ]
  go_wp2
  go_end0
  exact ⟨rfl, rfl⟩
set_option maxHeartbeats 1000000 in
set_option maxRecDepth 20000 in
theorem stable_calls (base : Nat) (A : Option Addr) (n cap : Nat) (l : List Cell) (w : World) (h : OwnC w base A n cap l) (hn : n ≤ 1000000) :
    Calls Tryd.prog 24 #[.slice A n cap, ordF] w fun e w' => e = .returned (.tuple #[]) ∧ ∃ R, Sorts l R ∧ OwnC w' base A n cap R ∧ Only (fun k => A = some ⟨k, 0, none⟩) w w' := by
  rcases h.shape with ⟨hA, hl⟩ | ⟨g, hA, _⟩
  · subst hA hl
    have h0 : n = 0 := by have := h.1; simpa using this
    subst h0
    have HO := Lib.hid h
    clear h
    go_enter Tryd.func24, Tryd.ntmps24
    go_wp2_with (go_at_call 35; refine (stab_nil _ _ _).mono ?_; rintro e w' ⟨rfl, rfl⟩)
    go_end0
    exact ⟨rfl, [], Sorts.nil, HO.out, Only.refl _ _⟩
  · subst hA
    have HO := Lib.hid h
    clear h
    go_enter Tryd.func24, Tryd.ntmps24
    go_wp2_with fail
    refine (stab_calls base g n cap l w HO.out hn).mono ?_
    rintro e w2 ⟨rfl, R, h1, h2, h3, h4⟩
    rw [List.append_nil, List.nil_append] at h3
    have H1 := Lib.hid h1
    have H3 := Lib.hid h3
    have H4 := Lib.hid h4
    clear h1 h2 h3 h4
    go_wp2
    go_end0
    exact ⟨rfl, R, H1.out, H3.out, H4.out.mono fun i _ hi => by rw [hi]⟩

theorem once_set {l : List Cell} {p : Nat} {d c : Cell} (hl : l.length = p + 1) (hd : l[p]? = some d) : onceStep l c = if d.order c = 0 then l.set p c else l ++ [c] := by
  rcases List.eq_nil_or_concat l with rfl | ⟨Y, e, hY⟩
  · simp at hl
  · rw [List.concat_eq_append] at hY
    subst hY
    have hp : p = Y.length := by simp at hl; omega
    subst hp
    rw [List.getElem?_append_right (Nat.le_refl _), Nat.sub_self] at hd
    have he : e = d := by simpa using hd
    subst he
    unfold onceStep
    rw [List.getLast?_append]
    simp only [List.getLast?_singleton, Option.some_or, List.dropLast_concat]
    rw [List.set_append_right _ _ (Nat.le_refl _), Nat.sub_self]
    rfl

set_option maxHeartbeats 2000000 in
set_option maxRecDepth 20000 in
theorem sort_calls (A : Option Addr) (n ca : Nat) (xs : List Cell) (w : World) (hx : RdC w A n xs) (hn : n ≤ 1000) (hf : ∀ c ∈ xs, c.fits) (hT : Lib.Utf8Tabs 0 1 w) :
    Calls Tryd.prog 11 #[.slice A n ca] w (OutC (sortL xs) w) := by
  have HX := Lib.hid hx
  have HF := Lib.hid hf
  have HT := Lib.hid hT
  have HL := Lib.hid hx.len
  clear hx hf hT
  go_enter Tryd.func11, Tryd.ntmps11
  go_wp2_with fail
  go_loopw [3, 12] (fun o i wr => ∃ (k m cap : Nat) (B : Option Addr), k ≤ n ∧ i = .int .i64 k ∧ o = .slice B m cap ∧ m ≤ k ∧ Hid (OwnC wr w.heap.size B m cap ((xs.take k).filter fun c => c.ok)) ∧ Hid (Below w.heap.size w wr)) (fun _ i _ => n - (intOf i).toNat)
  case atStart => exact ⟨0, 0, 0, none, Nat.zero_le _, rfl, rfl, Nat.le_refl _, Own.nil _ _ _ _ _, Below.refl _ _⟩
  case round =>
    obtain ⟨k, m, cap, B, hk, rfl, rfl, hm, HO, HBW⟩ := hrel
    by_cases hlt : k < n
    · obtain ⟨c, bb, off, hc, hA2, hbl, hc8⟩ := rd8 (HX.out.below HBW.out) k hlt
      obtain ⟨k0, k1, k2, k3, k4, k5, k6, k7⟩ := hc8.get
      have hfc := HF.out c (List.mem_of_getElem? hc)
      have htk : xs.take (k + 1) = xs.take k ++ [c] := by rw [List.take_add_one, hc]; rfl
      have HTK := Lib.hid htk
      obtain ⟨hB5, cb5⟩ := one_box wr c.cells 31
      have hright := Lib.hid (right_calls c (wr.alloc (.cells c.cells 31)) hfc (tabs_below HT.out (HBW.out.trans (hB5.mono HBW.out.size))))
      have HB5 := Lib.hid hB5
      have HC5 := Lib.hid cb5
      subst hA2
      have hsz := HBW.out.size
      clear hc8 hc hfc htk hB5 cb5 hbl
      go_wp2_with fail
      refine hright.out.mono ?_
      rintro e w5 ⟨rfl, hb5⟩
      have hbb : Below wr.heap.size wr w5 := HB5.out.trans (hb5.mono HB5.out.size)
      have HO5 := Lib.hid (HO.out.below hbb)
      have HBW5 := Lib.hid (HBW.out.trans (hbb.mono HBW.out.size))
      have hlt5 : wr.heap.size < (wr.alloc (.cells c.cells 31)).heap.size := by simp
      have b0 := below_cell hb5 (Nat.le_refl _) (HC5.out 0 _ rfl)
      have b1 := below_cell hb5 (Nat.le_refl _) (HC5.out 1 _ rfl)
      have b2 := below_cell hb5 (Nat.le_refl _) (HC5.out 2 _ rfl)
      have b3 := below_cell hb5 (Nat.le_refl _) (HC5.out 3 _ rfl)
      have b4 := below_cell hb5 (Nat.le_refl _) (HC5.out 4 _ rfl)
      have b5 := below_cell hb5 (Nat.le_refl _) (HC5.out 5 _ rfl)
      have b6 := below_cell hb5 (Nat.le_refl _) (HC5.out 6 _ rfl)
      have b7 := below_cell hb5 (Nat.le_refl _) (HC5.out 7 _ rfl)
      have hz5 := HBW5.out.size
      clear hb5 hbb HO HBW hright k0 k1 k2 k3 k4 k5 k6 k7 HB5 HC5 hlt5 hsz
      cases hl : c.ok with
      | false =>
        have HO6 : Hid (OwnC w5 w.heap.size B m cap ((xs.take (k + 1)).filter fun c => c.ok)) := by
          have := HO5.out
          rw [HTK.out, List.filter_append]
          have e : [c].filter (fun c => c.ok) = [] := by simp [hl]
          rw [e, List.append_nil]
          exact Lib.hid this
        clear hl HO5 HTK
        go_wp2
        go_roundw
        case rel => exact ⟨k + 1, m, cap, B, by omega, by go_num, rfl, by omega, HO6.out, HBW5.out⟩
        case measure => simp [intOf]; omega
      | true =>
        have he : Hid ((xs.take (k + 1)).filter (fun c => c.ok) = (xs.take k).filter (fun c => c.ok) ++ [c]) := by
          have e : [c].filter (fun c => c.ok) = [c] := by simp [hl]
          unfold Hid
          rw [HTK.out, List.filter_append, e]
        clear hl HTK
        go_wp2_with (at_builtin; refine app_cell rfl (.tmp 18) (.tmp 20) rfl c rfl HO5.out rfl rfl (by omega) hz5 ?_; intro g6 cap6 w6 h1 h2 h3 h4)
        have hwb : ∀ x, B = some ⟨x, 0, none⟩ → w.heap.size ≤ x := fun x hx => by
          rcases HO5.out.shape with ⟨h, _⟩ | ⟨q, h, h5, _⟩
          · rw [h] at hx; cases hx
          · rw [h] at hx; injection hx with hx; injection hx with hx; omega
        have HBW6 := Lib.hid (HBW5.out.trans (h2.below (B := w.heap.size) (by omega) (fun i hi => by have := hwb i hi; omega)))
        rw [← he.out] at h1
        have HO6 := Lib.hid h1
        clear h1 h2 h3 h4 he hwb
        go_roundw
        case rel => exact ⟨k + 1, m + 1, cap6, some ⟨g6, 0, none⟩, by omega, by go_num, rfl, by omega, HO6.out, HBW6.out⟩
        case measure => simp [intOf]; omega
    · obtain rfl : k = n := by omega
      have HO2 : Hid (OwnC wr w.heap.size B m cap (xs.filter fun c => c.ok)) := by
        have := HO.out
        rw [List.take_of_length_le (by rw [HL.out]; exact Nat.le_refl _)] at this
        exact Lib.hid this
      clear HO
      go_wp2_with fail
      refine (stable_calls w.heap.size B m cap _ wr HO2.out (by omega)).mono ?_
      rintro e w3 ⟨rfl, R, hR, ho3, hn3⟩
      have hwb : ∀ x, B = some ⟨x, 0, none⟩ → w.heap.size ≤ x ∧ x < wr.heap.size := fun x hx => by
        rcases HO2.out.shape with ⟨h, _⟩ | ⟨q, h, h5, h6⟩
        · rw [h] at hx; cases hx
        · rw [h] at hx; injection hx with hx; injection hx with hx; omega
      have HBW3 := Lib.hid (HBW.out.trans (hn3.below (B := w.heap.size) HBW.out.size (fun i hi => (hwb i hi).1)))
      have HB3 : Hid (∀ x, B = some ⟨x, 0, none⟩ → x < w3.heap.size) := fun x hx => Nat.lt_of_lt_of_le (hwb x hx).2 hn3.size
      have HFIN := Lib.hid (once_sorts hR)
      have HO3 := Lib.hid ho3
      have hm1000 : m ≤ 1000 := by omega
      clear hR ho3 hn3 hwb HO2 HBW hlt hk
      go_wp2_with fail
      go_loopw [6, 27] (fun o i wr => ∃ (k q cap' : Nat) (D : Option Addr), k ≤ m ∧ i = .int .i64 k ∧ o = .slice D q cap' ∧ q ≤ k ∧ Hid (OwnC wr w3.heap.size D q cap' (onceL (R.take k))) ∧ Hid (Below w3.heap.size w3 wr)) (fun _ i _ => m - (intOf i).toNat)
      case atStart => exact ⟨0, 0, 0, none, Nat.zero_le _, rfl, rfl, Nat.le_refl _, Own.nil _ _ _ _ _, Below.refl _ _⟩
      case round =>
        obtain ⟨k, q, cap', D, hk, rfl, rfl, hq, HO, HBW⟩ := hrel
        have HSO := Lib.hid (HO3.out.below HBW.out)
        by_cases hlt : k < m
        · obtain ⟨c, bb, off, hc, hA2, hbl, hc8⟩ := rd8 (HSO.out.rd Cell.l_len) k hlt
          obtain ⟨k0, k1, k2, k3, k4, k5, k6, k7⟩ := hc8.get
          have htk : onceL (R.take (k + 1)) = onceStep (onceL (R.take k)) c := by rw [List.take_add_one, hc, ← onceL_snoc]; rfl
          have HTK := Lib.hid htk
          obtain ⟨hB5, cb5⟩ := one_box wr c.cells 31
          obtain ⟨W5, hW5⟩ : ∃ W5, W5 = wr.alloc (.cells c.cells 31) := ⟨_, rfl⟩
          rw [← hW5] at hB5 cb5
          have hlt5 : wr.heap.size < W5.heap.size := by rw [hW5]; simp
          have HW5 := Lib.hid hW5
          have HO5 := Lib.hid (HO.out.below hB5)
          have HBW5 := Lib.hid (HBW.out.trans (hB5.mono HBW.out.size))
          have HC5 : Hid (At8 W5 wr.heap.size 0 c) := Lib.hid (fun j v hv => by rw [Nat.zero_add]; exact cb5 j v (by simpa [Cell.l] using hv))
          have hql := HO.out.1
          have HQL := Lib.hid hql
          obtain ⟨oB, hoB⟩ : ∃ oB, oB = wr.heap.size := ⟨_, rfl⟩
          have HOB := Lib.hid hoB
          have hz5 := HBW5.out.size
          have hz3 := HBW.out.size
          subst hA2
          clear hc8 hc htk hB5 cb5 hbl hql hW5 HO HBW HSO hoB
          have hRB : ∀ x, D = some ⟨x, 0, none⟩ → w3.heap.size ≤ x := fun x hx => by
            rcases HO5.out.shape with ⟨h, _⟩ | ⟨q, h, h5, _⟩
            · rw [h] at hx; cases hx
            · rw [h] at hx; injection hx with hx; injection hx with hx; omega
          have HRB := Lib.hid hRB
          clear hRB
          by_cases hq0 : q = 0
          · subst hq0
            have hE : onceL (R.take k) = [] := List.eq_nil_of_length_eq_zero HQL.out.symm
            have HE : Hid (onceL (R.take (k + 1)) = [] ++ [c]) := by
              unfold Hid
              rw [HTK.out, hE]; rfl
            have HO5' : Hid (OwnC W5 w3.heap.size D 0 cap' []) := by rw [← hE]; exact HO5
            clear hE HO5 HTK
            go_wp2_with fail
            rw [← HW5.out]
            obtain ⟨b0, b1, b2, b3, b4, b5, b6, b7⟩ := HC5.out.get
            go_quiet (fail)
            have hB6 := drewN_below W5 nq
            have HO6 := Lib.hid (HO5'.out.below hB6)
            have HBW6 := Lib.hid (HBW5.out.trans (hB6.mono HBW5.out.size))
            have hz6 := HBW6.out.size
            obtain ⟨b0, b1, b2, b3, b4, b5, b6, b7⟩ := (HC5.out.below hB6).get
            clear hB6 HO5' HBW5 HC5 HW5 hz5 k0 k1 k2 k3 k4 k5 k6 k7
            generalize W5.drewN nq = W6 at *
            go_wp2_with (at_builtin; refine app_cell rfl (.tmp 49) (.tmp 51) rfl c rfl HO6.out rfl rfl (by omega) hz6 ?_; intro g6 cap6 w6 h1 h2 h3 h4)
            rw [← HE.out] at h1
            have HO7 := Lib.hid h1
            have HBW7 := Lib.hid (HBW6.out.trans (h2.below (B := w3.heap.size) hz6 (fun i hi => HRB.out i hi)))
            clear h1 h2 h3 h4
            go_roundw
            case rel => exact ⟨k + 1, 0 + 1, cap6, some ⟨g6, 0, none⟩, by omega, by go_num, rfl, by omega, HO7.out, HBW7.out⟩
            case measure => simp [intOf]; omega
          · obtain ⟨p, hp⟩ : ∃ p, q = p + 1 := ⟨q - 1, by omega⟩
            have HP := Lib.hid hp
            obtain ⟨gd, rfl⟩ : ∃ gd, D = some ⟨gd, 0, none⟩ := by
              rcases HO5.out.shape with ⟨_, h⟩ | ⟨gd, h, _⟩
              · exfalso
                have := HQL.out
                rw [h] at this
                simp at this
                omega
              · exact ⟨gd, h⟩
            obtain ⟨d, hd, hd8⟩ := rd8z (HO5.out.rd Cell.l_len) p (by omega)
            have HONCE := Lib.hid (once_set (c := c) (by rw [← HQL.out]; exact hp) hd)
            have HD := Lib.hid hd
            obtain ⟨l0, l1, l2, l3, l4, l5, l6, l7⟩ := hd8.later
            obtain ⟨b0, b1, b2, b3, b4, b5, b6, b7⟩ := HC5.out.later
            have ep : wrap64 ((q : Int) - 1) = (p : Int) := by unfold wrap64; omega
            have ep2 : (q : Int) - 1 = (p : Int) := by omega
            have p0 : (0 : Int) ≤ (p : Int) := by omega
            have p1 : (p : Int) < (q : Int) := by omega
            clear hp hd hd8
            go_wp2_with fail
            rw [← HW5.out]
            refine wp_region_later (by kernel_rfl) (by kernel_rfl) ?_
            repeat (go_big_quiet_step ((go_at_call 25; exact calls_later (order_calls d c _))))
            refine wpQuiet_nil ?_
            intro W6 hW6
            have hB6 : Below W5.heap.size W5 W6 := by
              obtain ⟨X, rfl⟩ := hW6
              exact later_below W5 X
            have HO6 := Lib.hid (HO5.out.below hB6)
            have HBW6 := Lib.hid (HBW5.out.trans (hB6.mono HBW5.out.size))
            have hz6 := HBW6.out.size
            have HC6 := Lib.hid (HC5.out.below hB6)
            clear hW6 hB6 HO5 HBW5 HC5 HW5 hz5 k0 k1 k2 k3 k4 k5 k6 k7 l0 l1 l2 l3 l4 l5 l6 l7 b0 b1 b2 b3 b4 b5 b6 b7 ep ep2
            obtain ⟨b0, b1, b2, b3, b4, b5, b6, b7⟩ := HC6.out.get
            cases hoc : (d.order c == 0) with
            | true =>
              have HE : Hid (onceL (R.take (k + 1)) = (onceL (R.take k)).set p c) := by
                unfold Hid
                rw [HTK.out, HONCE.out, if_pos (by simpa using hoc)]
              have hfz : ∀ q, W6.frozen? ⟨gd, q, none⟩ = false := HO6.out.2.frozenAt
              obtain ⟨l0, l1, l2, l3, l4, l5, l6, l7⟩ := (show At8 W6 gd (p * 8) d from by
                obtain ⟨d', hd', h8⟩ := rd8z (HO6.out.rd Cell.l_len) p (by omega)
                rw [HD.out] at hd'
                cases hd'
                exact h8).get
              have E1 := own_set8 HO6.out p c d HD.out
              rw [← HE.out] at E1
              have E2 := Lib.hid E1
              have HN2 := Lib.hid (HBW6.out.trans ((set8_only W6 gd (p * 8) c).below (B := w3.heap.size) hz6 (fun i hi => HRB.out i (by rw [hi]))))
              clear E1 HTK HONCE
              go_wp2
              go_roundw
              case rel => exact ⟨k + 1, q, cap', some ⟨gd, 0, none⟩, by omega, by go_num, rfl, by omega, E2.out, HN2.out⟩
              case measure => simp [intOf]; omega
            | false =>
              have HE : Hid (onceL (R.take (k + 1)) = onceL (R.take k) ++ [c]) := by
                unfold Hid
                rw [HTK.out, HONCE.out, if_neg (by simpa using hoc)]
              clear HTK HONCE
              go_wp2_with (at_builtin; refine app_cell rfl (.tmp 49) (.tmp 51) rfl c rfl HO6.out rfl rfl (by omega) hz6 ?_; intro g6 cap6 w6 h1 h2 h3 h4)
              rw [← HE.out] at h1
              have HO7 := Lib.hid h1
              have HBW7 := Lib.hid (HBW6.out.trans (h2.below (B := w3.heap.size) hz6 (fun i hi => HRB.out i hi)))
              clear h1 h2 h3 h4
              go_roundw
              case rel => exact ⟨k + 1, q + 1, cap6, some ⟨g6, 0, none⟩, by omega, by go_num, rfl, by omega, HO7.out, HBW7.out⟩
              case measure => simp [intOf]; omega
        · obtain rfl : k = m := by omega
          have HRR : Hid (onceL (R.take k) = sortL xs) := by
            unfold Hid
            rw [List.take_of_length_le (by have := HSO.out.1; omega), HFIN.out]
          have hz3 := HBW3.out.size
          go_wp2
          go_ret
          exact ⟨D, q, cap', rfl, by rw [← HRR.out]; exact HO.out.lower hz3, HBW3.out.trans (HBW.out.mono hz3)⟩
theorem sortIs : SortIs := ⟨sort_calls⟩
end Go.Proofs.YtndmlldaebdnmaaDoor
