/-
  Contracts of joistref00.CopyCells and joistref06.Sort: a copy; cells, each put in its place.
-/
import Derived.Test.YtmabmnkdigdaiaaDoorJCells
import Derived.Test.YtmabmnkdigdaiaaDoorJRRight
import Derived.Test.YtmabmnkdigdaiaaDoorJROrder
namespace Go.Proofs.YtmabmnkdigdaiaaDoor
open Go.RowKit

/-- What comes back is a slice of the call's own that reads as xs; nothing that lay has turned. -/
def OutC (xs : List Cell) (w : World) (e : Ending) (w' : World) : Prop := ∃ A n cap, e = .returned (.slice A n cap) ∧ OwnC w' w.heap.size A n cap xs ∧ Below w.heap.size w w'

theorem copy_calls (A : Option Addr) (n ca : Nat) (l : List Cell) (w : World) (hx : RdC w A n l) (hA : A = none → ca = 0) (hn : n ≤ 1000000) :
    Calls Tryd.prog 11 #[.slice A n ca] w (OutC l w) := by
  obtain ⟨i0, hi, hz0, hz1, hz2⟩ := info_parts infoCell
  have hb : Below w.heap.size w (w.alloc (.cells #[] 35)) := (Below.refl _ _).alloc (Nat.le_refl _) _
  have hown := Own.lit 35 8 Cell.l w w.heap.size (Nat.le_refl _)
  have HX := Lib.hid (hx.below hb)
  clear hx
  go_enter Tryd.func11, Tryd.ntmps11
  go_wp2_with (at_builtin; refine append_all rfl (.tmp 5) (.tmp 6) 23 rfl i0 _ 96 Tryd.underlying23 hi hz0 hz1 hz2 rfl (by omega) Cell.l_len Cell.l_one rfl hown rfl hA HX.out (by omega) (by unfold maxLen; omega) (by simp) ?_; intro A' cap' w' h1 h2 h3 h4)
  go_ret
  exact ⟨A', 0 + n, cap', by simp, by simpa using h1, hb.trans ((h2.below (B := w.heap.size) (by simp) (fun i hi => by injection hi with hi; injection hi with hi; omega)))⟩

/-- A cell is put among others: one step. -/
def insStep (c : Cell) (st : List Cell × Bool) (x : Cell) : List Cell × Bool :=
  ((if st.2 = false ∧ c.order x ≤ 0 then st.1 ++ [c] else st.1) ++ (if c.order x = 0 then [] else [x]), st.2 || decide (c.order x ≤ 0))
def insAll (c : Cell) (l : List Cell) : List Cell × Bool := l.foldl (insStep c) ([], false)
def insC (c : Cell) (l : List Cell) : List Cell := if (insAll c l).2 = true then (insAll c l).1 else (insAll c l).1 ++ [c]
def sortC (l : List Cell) : List Cell := l.foldl (fun out c => if c.ok = true then insC c out else out) []

theorem insAll_snoc (c x : Cell) (l : List Cell) : insAll c (l ++ [x]) = insStep c (insAll c l) x := by simp [insAll, List.foldl_append]
theorem insAll_take (c x : Cell) (l : List Cell) (k : Nat) (h : l[k]? = some x) : insAll c (l.take (k + 1)) = insStep c (insAll c (l.take k)) x := by
  rw [List.take_add_one, h]; exact insAll_snoc c x _
theorem insStep_len (c x : Cell) (st : List Cell × Bool) : (insStep c st x).1.length ≤ st.1.length + 2 := by
  unfold insStep
  split <;> split <;> simp <;> omega
theorem insStep_len1 (c x : Cell) (st : List Cell × Bool) : (insStep c st x).1.length + st.2.toNat ≤ st.1.length + 1 + (insStep c st x).2.toNat := by
  obtain ⟨l, b⟩ := st
  unfold insStep
  cases b <;> by_cases h : c.order x ≤ 0 <;> by_cases h0 : c.order x = 0 <;> simp [h, h0]
theorem insAll_len (c : Cell) : ∀ (l : List Cell) (st : List Cell × Bool), (l.foldl (insStep c) st).1.length + st.2.toNat ≤ st.1.length + l.length + (l.foldl (insStep c) st).2.toNat
  | [], st => by simp
  | x :: l, st => by
    have h1 := insStep_len1 c x st
    have h2 := insAll_len c l (insStep c st x)
    rw [List.foldl_cons, List.length_cons]
    generalize List.foldl (insStep c) (insStep c st x) l = z at *
    generalize insStep c st x = y at *
    omega
theorem insC_len (c : Cell) (l : List Cell) : (insC c l).length ≤ l.length + 1 := by
  have h := insAll_len c l ([], false)
  change (insAll c l).1.length + 0 ≤ 0 + l.length + (insAll c l).2.toNat at h
  unfold insC
  split
  · rename_i h1; rw [h1] at h; simp at h; omega
  · rename_i h1
    rw [List.length_append]; simp only [List.length_cons, List.length_nil]
    have h1 : (insAll c l).2 = false := by simpa using h1
    rw [h1] at h; simp at h; omega
theorem insStep_mem (c x : Cell) (st : List Cell × Bool) (y : Cell) (h : y ∈ (insStep c st x).1) : y ∈ st.1 ∨ y = c ∨ y = x := by
  unfold insStep at h
  split at h <;> split at h <;> simp at h <;> grind

theorem insC_mem (c : Cell) (l : List Cell) (y : Cell) (h : y ∈ insC c l) : y ∈ l ∨ y = c := by
  have key : ∀ (l : List Cell) (st : List Cell × Bool), y ∈ (l.foldl (insStep c) st).1 → y ∈ st.1 ∨ y = c ∨ y ∈ l := by
    intro l
    induction l with
    | nil => intro st h; exact .inl h
    | cons x l ih =>
      intro st h
      rcases ih _ h with h | h | h
      · rcases insStep_mem c x st y h with h | h | h
        · exact .inl h
        · exact .inr (.inl h)
        · exact .inr (.inr (by rw [h]; exact List.mem_cons_self))
      · exact .inr (.inl h)
      · exact .inr (.inr (List.mem_cons_of_mem _ h))
  unfold insC insAll at h
  split at h
  · rcases key l _ h with h | h | h
    · cases h
    · exact .inr h
    · exact .inl h
  · rw [List.mem_append] at h
    rcases h with h | h
    · rcases key l _ h with h | h | h
      · cases h
      · exact .inr h
      · exact .inl h
    · exact .inr (by simpa using h)
theorem sortC_snoc (l : List Cell) (c : Cell) : sortC (l ++ [c]) = if c.ok = true then insC c (sortC l) else sortC l := by simp [sortC, List.foldl_append]
theorem sortC_take (l : List Cell) (c : Cell) (k : Nat) (h : l[k]? = some c) : sortC (l.take (k + 1)) = if c.ok = true then insC c (sortC (l.take k)) else sortC (l.take k) := by
  rw [List.take_add_one, h]; exact sortC_snoc _ c
theorem sortC_mem : ∀ (n : Nat) (l : List Cell), l.length = n → ∀ y ∈ sortC l, y ∈ l
  | 0, l, h => by rw [List.eq_nil_of_length_eq_zero h]; simp [sortC]
  | n + 1, l, h => by
    intro y hy
    have hne : l ≠ [] := by intro e; rw [e] at h; cases h
    rw [← List.dropLast_concat_getLast hne] at hy
    rw [sortC_snoc] at hy
    have hl : l.dropLast.length = n := by rw [List.length_dropLast]; omega
    split at hy
    · rcases insC_mem _ _ _ hy with hy | hy
      · exact List.dropLast_subset _ (sortC_mem n _ hl y hy)
      · rw [hy]; exact List.getLast_mem hne
    · exact List.dropLast_subset _ (sortC_mem n _ hl y hy)
theorem sortC_len : ∀ (n : Nat) (l : List Cell), l.length = n → (sortC l).length ≤ n
  | 0, l, h => by rw [List.eq_nil_of_length_eq_zero h]; simp [sortC]
  | n + 1, l, h => by
    have hne : l ≠ [] := by intro e; rw [e] at h; cases h
    rw [← List.dropLast_concat_getLast hne, sortC_snoc]
    have hl : l.dropLast.length = n := by rw [List.length_dropLast]; omega
    have := sortC_len n _ hl
    have := insC_len (l.getLast hne) (sortC l.dropLast)
    split <;> omega

theorem Cell.fits.small' {c : Cell} (h : c.fits) : c.small := ⟨h.row, h.fam, h.qual⟩

set_option maxHeartbeats 8000000 in
set_option maxRecDepth 100000 in
theorem rsort_calls (A : Option Addr) (n ca : Nat) (l : List Cell) (w : World) (hx : RdC w A n l) (hn : n ≤ 1000) (hf : ∀ c ∈ l, c.fits) :
    Calls Tryd.prog 25 #[.slice A n ca] w (OutC (sortC l) w) := by
  have HF := Lib.hid hf
  clear hf
  have hb0 : Below w.heap.size w (w.alloc (.cells #[] 35)) := (Below.refl _ _).alloc (Nat.le_refl _) _
  have hown0 := Own.lit 35 8 Cell.l w w.heap.size (Nat.le_refl _)
  go_enter Tryd.func25, Tryd.ntmps25
  go_wp2
  go_loopw [3, 4] (fun o i wr => ∃ (k : Nat) (A1 : Option Addr) (m cap : Nat) (ys : List Cell), k ≤ n ∧ i = .int .i64 k ∧ o = .slice A1 m cap ∧ m ≤ k ∧ OwnC wr w.heap.size A1 m cap ys ∧ Below w.heap.size w wr ∧ Hid (ys = sortC (l.take k))) (fun _ i _ => n - (intOf i).toNat)
  case atStart => exact ⟨0, _, 0, 0, [], Nat.zero_le _, rfl, rfl, Nat.le_refl _, hown0, hb0, rfl⟩
  case round =>
    clear hown0 hb0
    obtain ⟨k, A1, m, cap, ys, hk, rfl, rfl, hm, hown, hb, hys⟩ := hrel
    have hnl := Lib.hid hx.len
    by_cases hlt : k < n
    · obtain ⟨c, b, off, hc, hA, hbb, hc8⟩ := rd8 hx k hlt
      have HX := Lib.hid hx
      clear hx
      subst hA
      have HC := Lib.hid hc
      clear hc
      have hcf := Lib.hid (HF.out c (List.mem_of_getElem? HC.out))
      have hst := Lib.hid (sortC_take l c k HC.out)
      have hR := Lib.hid (rright_calls c wr hcf.out)
      have h8r := hc8.below hb
      obtain ⟨k0, k1, k2, k3, k4, k5, k6, k7⟩ := h8r.get
      clear h8r
      cases hok : c.ok with
      | false =>
        rw [hok] at hR
        have HO := Lib.hid hok
        clear hok
        go_wp2_with (go_at_call 32; refine (hR.out).mono ?_; rintro e w' ⟨rfl, hb1⟩)
        go_roundw
        case rel => exact ⟨k + 1, A1, m, cap, ys, by omega, by go_num, rfl, by omega, hown.below hb1, hb.trans (hb1.mono hb.size), by rw [hst.out, HO.out, hys.out]; rfl⟩
        case measure => simp [intOf]; omega
      | true =>
        rw [hok] at hR
        have HO := Lib.hid hok
        clear hok
        go_wp2_with (go_at_call 32; refine (hR.out).mono ?_; rintro e w' ⟨rfl, hb1⟩)
        clear k0 k1 k2 k3 k4 k5 k6 k7 hR
        have hb2 : Below w.heap.size w w' := hb.trans (hb1.mono hb.size)
        have hown' := hown.below hb1
        have hlit := (Own.lit 35 8 Cell.l w' w'.heap.size (Nat.le_refl _)).lower hb2.size
        have hb3 := hb2.alloc hb2.size (.cells #[] 35)
        have hown3 := hown'.below ((Below.refl _ _).alloc (Nat.le_refl _) (.cells #[] 35))
        have hsep : ∀ g, A1 = some ⟨g, 0, none⟩ → g < w'.heap.size := fun g hg => by
          rcases hown'.shape with ⟨h, _⟩ | ⟨g', h, _, h2⟩
          · rw [h] at hg; cases hg
          · rw [h] at hg; injection hg with hg; injection hg with hg; omega
        have Hsep := Lib.hid hsep
        clear hsep hb1 hb hown hown' hb2
        generalize w'.alloc (.cells #[] 35) = W2 at *
        generalize w'.heap.size = g2 at *
        clear w'
        go_loopw [5, 6, 7] (fun nx dn kk wr2 => ∃ (j : Nat) (A2 : Option Addr) (n2 cap2 : Nat) (zs : List Cell) (d : Bool), j ≤ m ∧ kk = .int .i64 j ∧ nx = .slice A2 n2 cap2 ∧ dn = .bool d ∧ n2 ≤ 2 * j ∧ OwnC wr2 w.heap.size A2 n2 cap2 zs ∧ OwnC wr2 w.heap.size A1 m cap ys ∧ Below w.heap.size w wr2 ∧ Hid ((zs, d) = insAll c (ys.take j)) ∧ Hid (∀ g, A1 = some ⟨g, 0, none⟩ → ∀ g', A2 = some ⟨g', 0, none⟩ → g < g')) (fun _ _ j _ => m - (intOf j).toNat)
        case atStart => exact ⟨0, some ⟨g2, 0, none⟩, 0, 0, [], false, Nat.zero_le _, rfl, rfl, rfl, Nat.le_refl _, hlit, hown3, hb3, rfl, fun g hg g' hg' => by injection hg' with hg'; injection hg' with hg'; rw [← hg']; exact Hsep.out g hg⟩
        case round =>
          clear hlit hown3 hb3 Hsep
          obtain ⟨j, A2, n2, cap2, zs, d, hj, rfl, rfl, rfl, hn2, hz, ho, hb, hst2, hsep⟩ := hrel
          by_cases hjm : j < m
          · obtain ⟨g1, hA1, hg1, hg1'⟩ : ∃ g1, A1 = some ⟨g1, 0, none⟩ ∧ w.heap.size ≤ g1 ∧ g1 < wr.heap.size := by
              rcases ho.shape with ⟨_, h⟩ | h
              · have := ho.1; rw [h] at this; simp at this; omega
              · exact h
            have HO1 := Lib.hid ho.1
            subst hA1
            obtain ⟨x, hx1, hx8⟩ := rd8z (ho.rd Cell.l_len) j hjm
            have HX1 := Lib.hid hx1
            clear hx1
            have hcs := Lib.hid hcf.out.small'
            have hxs : Hid x.small := by
              have h1 := List.mem_of_getElem? HX1.out
              rw [hys.out] at h1
              exact (HF.out x (List.mem_of_mem_take (sortC_mem _ _ rfl x h1))).small'
            have hne : Hid (¬ A2 = some ⟨g1, 0, none⟩) := fun h => by have := hsep.out g1 rfl g1 h; omega
            have hstep := Lib.hid (insAll_take c x ys j HX1.out)
            obtain ⟨o, hoo⟩ : ∃ o, o = c.order x := ⟨_, rfl⟩
            have Hoo := Lib.hid hoo
            have hord : ∀ X, Calls Tryd.prog 27 #[c.v, x.v] (wr.later X) fun e w'' => e = .returned (.int .i64 o) ∧ ∃ Y, w'' = wr.later Y := fun X => by rw [hoo]; exact calls_later (rorder_calls c x _ hcs.out hxs.out)
            have Hord := Lib.hid hord
            clear hord hoo
            have hcr := hc8.below hb
            obtain ⟨k0, k1, k2, k3, k4, k5, k6, k7⟩ := hcr.later
            obtain ⟨l0, l1, l2, l3, l4, l5, l6, l7⟩ := hx8.later
            go_wp2
            refine wp_region_later (by kernel_rfl) (by kernel_rfl) ?_
            repeat (go_big_quiet_step ((go_at_call 27; exact Hord.out _)))
            refine wpQuiet_nil ?_
            intro W3 hW3
            have hb3 : Below wr.heap.size wr W3 := by
              obtain ⟨X, rfl⟩ := hW3
              exact later_below _ _
            clear hW3 Hord k0 k1 k2 k3 k4 k5 k6 k7 l0 l1 l2 l3 l4 l5 l6 l7
            have hz3 := hz.below hb3
            have ho3 := ho.below hb3
            have hbw := hb.trans (hb3.mono hb.size)
            have hc3 := hcr.below hb3
            have hx3 := hx8.below hb3
            have hg1w := Nat.lt_of_lt_of_le hg1' hb3.size
            clear hz ho hb hcr hx8 hb3 hg1'
            clear wr
            obtain ⟨k0, k1, k2, k3, k4, k5, k6, k7⟩ := hc3.get
            obtain ⟨l0, l1, l2, l3, l4, l5, l6, l7⟩ := hx3.get
            have hsz := hbw.size
            cases d with
            | true =>
              by_cases h0 : o = 0
              · subst h0
                go_wp2
                go_roundw
                case rel =>
                  refine ⟨j + 1, A2, n2, cap2, zs, true, by omega, by go_num, rfl, rfl, by omega, hz3, ho3, hbw, ?_, fun g hg g' hg' => hsep.out g hg g' hg'⟩
                  show (zs, true) = insAll c (ys.take (j + 1))
                  rw [hstep.out, ← hst2.out, insStep, ← Hoo.out]
                  simp
                case measure => simp [intOf]; omega
              · have h1 : (o != 0) = true := by simp [h0]
                have H0 := Lib.hid h0
                clear h0
                go_wp2_with (at_builtin; refine app_cell rfl (.tmp 53) (.tmp 58) rfl x rfl hz3 rfl rfl (by omega) hsz ?_; intro g cap' w4 h1 h2 h3 h4)
                go_roundw
                case rel =>
                  refine ⟨j + 1, some ⟨g, 0, none⟩, n2 + 1, cap', zs ++ [x], true, by omega, by go_num, rfl, rfl, by omega, h1, ho3.only h2 (fun g' hg' e => hne.out (e.trans (by injection hg' with hg'; injection hg' with hg'; rw [hg']))), hbw.trans (h2.below hsz (fun i hi => ?_)), ?_, fun g' hg' g'' hg'' => ?_⟩
                  · rcases hz3.shape with ⟨h, _⟩ | ⟨q, h, hq, _⟩
                    · rw [h] at hi; cases hi
                    · rw [h] at hi; injection hi with hi; injection hi with hi; omega
                  · show (zs ++ [x], true) = insAll c (ys.take (j + 1))
                    rw [hstep.out, ← hst2.out, insStep, ← Hoo.out]
                    simp [H0.out]
                  · injection hg' with hg'; injection hg' with hg'
                    injection hg'' with hg''; injection hg'' with hg''
                    rcases h3 with h3 | h3
                    · have := hsep.out g1 rfl g h3; omega
                    · omega
                case measure => simp [intOf]; omega
            | false =>
              by_cases hpos : 0 < o
              · have h1 : (o != 0) = true := by simp; omega
                have h2 : ¬ o ≤ 0 := by omega
                go_wp2_with (at_builtin; refine app_cell rfl (.tmp 53) (.tmp 58) rfl x rfl hz3 rfl rfl (by omega) hsz ?_; intro g cap' w4 h1 h2 h3 h4)
                go_roundw
                case rel =>
                  refine ⟨j + 1, some ⟨g, 0, none⟩, n2 + 1, cap', zs ++ [x], false, by omega, by go_num, rfl, rfl, by omega, h1, ho3.only h2 (fun g' hg' e => hne.out (e.trans (by injection hg' with hg'; injection hg' with hg'; rw [hg']))), hbw.trans (h2.below hsz (fun i hi => ?_)), ?_, fun g' hg' g'' hg'' => ?_⟩
                  · rcases hz3.shape with ⟨h, _⟩ | ⟨q, h, hq, _⟩
                    · rw [h] at hi; cases hi
                    · rw [h] at hi; injection hi with hi; injection hi with hi; omega
                  · show (zs ++ [x], false) = insAll c (ys.take (j + 1))
                    rw [hstep.out, ← hst2.out, insStep, ← Hoo.out, if_neg (by omega), if_neg (by omega), decide_eq_false (by omega)]
                    rfl
                  · injection hg' with hg'; injection hg' with hg'
                    injection hg'' with hg''; injection hg'' with hg''
                    rcases h3 with h3 | h3
                    · have := hsep.out g1 rfl g h3; omega
                    · omega
                case measure => simp [intOf]; omega
              · have h2 : o ≤ 0 := by omega
                by_cases h0 : o = 0
                · subst h0
                  clear hpos
                  go_wp2_with (at_builtin; refine app_cell rfl (.tmp 44) (.tmp 49) rfl c rfl hz3 rfl rfl (by omega) hsz ?_; intro g cap' w4 h1 h2 h3 h4)
                  go_roundw
                  case rel =>
                    refine ⟨j + 1, some ⟨g, 0, none⟩, n2 + 1, cap', zs ++ [c], true, by omega, by go_num, rfl, rfl, by omega, h1, ho3.only h2 (fun g' hg' e => hne.out (e.trans (by injection hg' with hg'; injection hg' with hg'; rw [hg']))), hbw.trans (h2.below hsz (fun i hi => ?_)), ?_, fun g' hg' g'' hg'' => ?_⟩
                    · rcases hz3.shape with ⟨h, _⟩ | ⟨q, h, hq, _⟩
                      · rw [h] at hi; cases hi
                      · rw [h] at hi; injection hi with hi; injection hi with hi; omega
                    · show (zs ++ [c], true) = insAll c (ys.take (j + 1))
                      rw [hstep.out, ← hst2.out, insStep, ← Hoo.out]
                      simp
                    · injection hg' with hg'; injection hg' with hg'
                      injection hg'' with hg''; injection hg'' with hg''
                      rcases h3 with h3 | h3
                      · have := hsep.out g1 rfl g h3; omega
                      · omega
                  case measure => simp [intOf]; omega
                · have h1 : (o != 0) = true := by simp [h0]
                  have H0 := Lib.hid h0
                  clear h0
                  go_wp2_with (first | (at_builtin; refine app_cell rfl (.tmp 44) (.tmp 49) rfl c rfl hz3 rfl rfl (by omega) hsz ?_; intro g cap' w4 h1' h2' h3' h4'; obtain ⟨l0, l1, l2, l3, l4, l5, l6, l7⟩ := (hx3.only h2' hne.out).get) | (at_builtin; refine app_cell rfl (.tmp 53) (.tmp 58) rfl x rfl h1' rfl rfl (by omega) (Nat.le_trans hsz h2'.size) ?_; intro g' cap'' w5 h1'' h2'' h3'' h4''))
                  go_roundw
                  case rel =>
                    have hg4 : g1 < g := by
                      rcases h3' with h3 | h3
                      · exact hsep.out g1 rfl g h3
                      · omega
                    have ho4 := ho3.only h2' (fun g' hg' e => hne.out (e.trans (by injection hg' with hg'; injection hg' with hg'; rw [hg'])))
                    have hb4 := hbw.trans (h2'.below hsz (fun i hi => by
                      rcases hz3.shape with ⟨h, _⟩ | ⟨q, h, hq, _⟩
                      · rw [h] at hi; cases hi
                      · rw [h] at hi; injection hi with hi; injection hi with hi; omega))
                    refine ⟨j + 1, some ⟨g', 0, none⟩, n2 + 1 + 1, cap'', zs ++ [c] ++ [x], true, by omega, by go_num, rfl, rfl, by omega, h1'', ho4.only h2'' (fun q hq e => ?_), hb4.trans (h2''.below (by have := h2'.size; omega) (fun i hi => ?_)), ?_, fun q hq q' hq' => ?_⟩
                    · injection hq with hq; injection hq with hq
                      injection e with e; injection e with e; omega
                    · injection hi with hi; injection hi with hi; omega
                    · show (zs ++ [c] ++ [x], true) = insAll c (ys.take (j + 1))
                      rw [hstep.out, ← hst2.out, insStep, ← Hoo.out, if_pos ⟨rfl, h2⟩, if_neg H0.out, decide_eq_true h2]
                      rfl
                    · injection hq with hq; injection hq with hq
                      injection hq' with hq'; injection hq' with hq'
                      rcases h3'' with h3 | h3
                      · injection h3 with h3; injection h3 with h3; omega
                      · have := h2'.size; omega
                  case measure => simp [intOf]; omega
          · obtain rfl : j = m := by omega
            have hfin : Hid ((zs, d) = insAll c ys) := by
              have h1 := hst2.out
              have h2 := ho.1
              rw [List.take_of_length_le (by omega)] at h1
              exact h1
            have hins : Hid (insC c ys = if d = true then zs else zs ++ [c]) := by
              unfold Hid insC
              rw [← hfin.out]
            have hcr := hc8.below hb
            obtain ⟨k0, k1, k2, k3, k4, k5, k6, k7⟩ := hcr.get
            have hsz := hb.size
            have hlen : Hid (n2 ≤ k + 1) := by
              have h1 := insC_len c ys
              have h2 := hz.1
              have h3 := ho.1
              rw [hins.out] at h1
              unfold Hid
              cases d
              · simp at h1; omega
              · simp at h1; omega
            cases d with
            | true =>
              go_wp2
              go_roundw
              case rel => exact ⟨k + 1, A2, n2, cap2, zs, by omega, by go_num, rfl, hlen.out, hz, hb, by rw [hst.out, HO.out, ← hys.out]; exact (if_pos rfl).trans hins.out |>.symm⟩
              case measure => simp [intOf]; omega
            | false =>
              go_wp2_with (at_builtin; refine app_cell rfl (.tmp 62) (.tmp 67) rfl c rfl hz rfl rfl (by omega) hsz ?_; intro g cap' w4 h1 h2 h3 h4)
              go_roundw
              case rel =>
                refine ⟨k + 1, some ⟨g, 0, none⟩, n2 + 1, cap', zs ++ [c], by omega, by go_num, rfl, ?_, h1, hb.trans (h2.below hsz (fun i hi => ?_)), ?_⟩
                · have h5 := insC_len c ys
                  have h6 := hz.1
                  have h7 := ho.1
                  rw [hins.out] at h5
                  simp at h5; omega
                · rcases hz.shape with ⟨h, _⟩ | ⟨q, h, hq, _⟩
                  · rw [h] at hi; cases hi
                  · rw [h] at hi; injection hi with hi; injection hi with hi; omega
                · show zs ++ [c] = sortC (l.take (k + 1))
                  rw [hst.out, HO.out, ← hys.out]
                  exact ((if_pos rfl).trans (hins.out.trans (if_neg (by simp)))).symm
              case measure => simp [intOf]; omega
    · clear hx
      go_wp2
      go_ret
      refine ⟨A1, m, cap, rfl, ?_, hb⟩
      have := hys.out
      rw [List.take_of_length_le (by have := hnl.out; omega)] at this
      rw [← this]
      exact hown
end Go.Proofs.YtmabmnkdigdaiaaDoor
