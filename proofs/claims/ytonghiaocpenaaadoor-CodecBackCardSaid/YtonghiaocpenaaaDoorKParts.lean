/-
  codec.Parts.
-/
import Derived.Test.YtonghiaocpenaaaDoorKListW
import Derived.Test.YtonghiaocpenaaaDoorKAlive
namespace Go.Proofs.YtonghiaocpenaaaDoor
open Go.RowKit

abbrev OwnR := Own 30 1 BRow.l
theorem infoRow : (Tryd.prog.info? 30).map (fun i => (i.zero, i.size, i.bytes)) = some (some (.slice none 0 0), 1, 24) := by kernel_rfl
theorem BRow.l_one (r : BRow) : ∀ u ∈ r.l, u.oneCell' = true := by
  intro u hu
  simp only [BRow.l, List.mem_cons, List.not_mem_nil, or_false] at hu
  subst hu; rfl
/-- append(out, r), r just laid into a block of its own. -/
theorem app_row {w : World} {ops : Array Oper} {rest : List Oper} {o : Oper} {a : Act} {Q : Exit → Act → World → Prop} (hgd : o.guard = none) (s x : Operand)
    (ho : o.op = .call { callee := .builtin .append, args := #[s, x], argTypes := #[38, 38] }) (r : BRow)
    {base n cap nb : Nat} {A : Option Addr} {xs : List BRow} (hs : a.eval s = .slice A n cap) (hown : OwnR w base A n cap xs) (hnb : nb = w.heap.size) (hx : a.eval x = .slice (some ⟨nb, 0, none⟩) 1 1) (hn : n ≤ 10000000) (hbase : base ≤ w.heap.size)
    (h : ∀ g cap' w', OwnR w' base (some ⟨g, 0, none⟩) (n + 1) cap' (xs ++ [r]) → Only (fun k => A = some ⟨k, 0, none⟩) w w' → (A = some ⟨g, 0, none⟩ ∨ w.heap.size < g) → g < w'.heap.size →
      wpList Tryd.prog ops Q rest (a.put o.dst (.slice (some ⟨g, 0, none⟩) (n + 1) cap')) w') : wpList Tryd.prog ops Q (o :: rest) a (w.alloc (.cells #[.slice r.A r.n r.cap] 30)) := by
  obtain ⟨i0, hi, hz0, hz1, hz2⟩ := info_parts infoRow
  subst hnb
  have hb : Below w.heap.size w (w.alloc (.cells #[.slice r.A r.n r.cap] 30)) := (Below.refl _ _).alloc (Nat.le_refl _) _
  refine append_one hgd s x 38 ho i0 _ 24 Tryd.underlying38 hi hz0 hz1 hz2 rfl (by omega) BRow.l_len (c := r) hs (hown.below hb) hx (fun j u hj => ?_) r.l_one (by omega) (by unfold maxLen; omega) (Nat.le_trans hbase hb.size) ?_
  · rw [World.cell?_alloc_new]; simpa [BRow.l] using hj
  · intro g cap' w' h1 h2 h3 h4
    refine h g cap' w' h1 ((hb.only _).trans h2) (h3.imp id fun h3 => ?_) h4
    simp at h3; omega

theorem rd_take {w : World} {A : Option Addr} {n k : Nat} {xs : List Int} (h : RdB w A n xs) (hk : k ≤ n) : RdB w A k (xs.take k) :=
  ⟨by rw [List.length_take, ← h.len]; omega, fun i c hc => by
    rw [List.getElem?_take] at hc
    split at hc
    · exact h.at_ i c hc
    · cases hc⟩
/-- What is left to be read, behind what was. -/
def goP (pre : List (List Int)) (m : Nat) (zs : List Int) : Option (List (List Int)) := match goV m zs with
  | some (ps, []) => some (pre ++ ps)
  | _ => none
theorem parts_goP (xs : List Int) : partsV xs = match takeV 0 0 xs with | some (n, r) => goP [] n r | none => none := by
  unfold partsV goP
  rfl
theorem goP_step {pre : List (List Int)} {m k : Nat} {zs t : List Int} (h : takeV 0 0 zs = some (k, t)) (hk : k ≤ t.length) : goP pre (m + 1) zs = goP (pre ++ [t.take k]) m (t.drop k) := by
  unfold goP
  rw [goV, h]
  simp only
  rw [if_pos hk]
  cases goV m (t.drop k) with
  | none => rfl
  | some p =>
    obtain ⟨ps, r⟩ := p
    cases r with
    | nil => simp
    | cons y r => rfl
theorem goP_none {pre : List (List Int)} {m : Nat} {zs : List Int} (h : takeV 0 0 zs = none) : goP pre (m + 1) zs = none := by
  unfold goP
  rw [goV, h]
theorem goP_far {pre : List (List Int)} {m k : Nat} {zs t : List Int} (h : takeV 0 0 zs = some (k, t)) (hk : ¬ k ≤ t.length) : goP pre (m + 1) zs = none := by
  unfold goP
  rw [goV, h]
  simp only
  rw [if_neg hk]
theorem take_less : ∀ (xs : List Int) (i acc : Nat) {v : Nat} {r : List Int}, takeV i acc xs = some (v, r) → r.length < xs.length ∧ ∃ p, p ++ r = xs
  | [], i, acc, v, r, h => by simp [takeV] at h
  | c :: xs, i, acc, v, r, h => by
    rw [takeV] at h
    by_cases h9 : 9 ≤ i
    · rw [if_pos h9] at h; cases h
    · rw [if_neg h9] at h
      by_cases h128 : 128 ≤ c
      · rw [if_pos h128] at h
        obtain ⟨h1, p, h2⟩ := take_less xs _ _ h
        exact ⟨by rw [List.length_cons]; omega, c :: p, by rw [List.cons_append, h2]⟩
      · rw [if_neg h128] at h
        by_cases h0 : 0 < i ∧ c = 0
        · rw [if_pos h0] at h; cases h
        · rw [if_neg h0] at h
          injection h with h; injection h with h1 h2
          subst h2
          exact ⟨by simp, [c], rfl⟩
/-- Parts' answer. -/
def PartsOut (xs : List Int) (w : World) (e : Ending) (w' : World) : Prop :=
  Below w.heap.size w w' ∧ ((partsV xs = none ∧ e = .returned (.tuple #[.slice none 0 0, .bool false])) ∨
    ∃ (rows : List BRow) (A : Option Addr) (n cap : Nat), partsV xs = some (rows.map BRow.xs) ∧ e = .returned (.tuple #[.slice A n cap, .bool true]) ∧ Rd 1 BRow.l w' A n rows ∧ (∀ r ∈ rows, BRowOk w' r) ∧ n ≤ 1000000)

set_option maxHeartbeats 4000000 in
set_option maxRecDepth 20000 in
theorem parts_calls (b off n cap : Nat) (xs : List Int) (w : World) (hx : RdB w (some ⟨b, off, none⟩) n xs) (hb : Bytes xs) (hn : n ≤ 1000000) (hcap : n ≤ cap) (hcm : cap ≤ maxLen) :
    Calls Tryd.prog 20 #[.slice (some ⟨b, off, none⟩) n cap] w (PartsOut xs w) := by
  have HT := Lib.hid (take_calls b off n cap xs w hx hb hn hcap hcm)
  have HL := Lib.hid hx.len
  have HBY := Lib.hid hb
  clear hx hb hcm
  go_enter Tryd.func20, Tryd.ntmps20
  go_wp2_with fail
  refine HT.out.mono ?_
  rintro e w1 ⟨hb1, ⟨ht, rfl⟩ | ⟨v, ys, g, cp, ht, hv, rfl, hown⟩⟩
  · go_wp2
    go_ret2
    exact ⟨hb1, .inl ⟨by rw [parts_goP, ht], rfl⟩⟩
  · have HO1 := Lib.hid hown
    have HB1 := Lib.hid hb1
    have HP : Hid (partsV xs = goP [] v ys) := by unfold Hid; rw [parts_goP, ht]
    clear hown hb1
    go_wp2_with fail
    have hys : ys.length ≤ n := by have := (take_less xs 0 0 ht).1; rw [← HL.out] at this; omega
    have hby : Bytes ys := by
      obtain ⟨_, p, hp⟩ := take_less xs 0 0 ht
      intro x hx
      exact HBY.out x (by rw [← hp]; exact List.mem_append_right _ hx)
    have HBYY := Lib.hid hby
    obtain ⟨hc1, hc2, _⟩ := own_caps HO1.out
    have HRD1 := Lib.hid (HO1.out.rd encB_len)
    have hg1 : w.heap.size ≤ g ∧ g < w1.heap.size := by
      rcases HO1.out.shape with ⟨h, _⟩ | ⟨x, h, h2, h3⟩
      · cases h
      · injection h with h; injection h with h; subst h; exact ⟨h2, h3⟩
    have HG1 := Lib.hid hg1
    have HC2 := Lib.hid hc2
    clear ht hby hc2 hg1 HO1 HT
    go_loopw [4, 5, 7] (fun nn rs out wr => ∃ (m q o rl rc : Nat) (zs : List Int) (rows : List BRow) (A : Option Addr) (an ac : Nat), nn = .int .i64 m ∧ m < 9223372036854775808 ∧ rs = .slice (some ⟨q, o, none⟩) rl rc ∧ out = .slice A an ac ∧ rl ≤ rc ∧ rl + an ≤ n ∧ Hid (rc ≤ maxLen) ∧ Hid (RdB wr (some ⟨q, o, none⟩) rl zs) ∧ Hid (Bytes zs) ∧ Hid (OwnR wr w.heap.size A an ac rows) ∧ Hid (∀ r ∈ rows, BRowOk wr r ∧ ∀ a, r.A = some a → a.block < wr.heap.size) ∧ Hid (∀ x, A = some ⟨x, 0, none⟩ → q ≠ x ∧ ∀ r ∈ rows, ∀ a, r.A = some a → a.block ≠ x) ∧ Hid (q < wr.heap.size) ∧ Hid (partsV xs = goP (rows.map BRow.xs) m zs) ∧ Hid (Below w.heap.size w wr)) (fun _ rs _ _ => match rs with | .slice _ l _ => l | _ => 0)
    case atStart => exact ⟨v, g, 0, ys.length, cp, ys, [], none, 0, 0, rfl, hv, rfl, rfl, hc1, by omega, HC2.out, HRD1.out, HBYY.out, Own.nil _ _ _ _ _, (fun r hr => by cases hr), (fun x hx => by cases hx), HG1.out.2, HP.out, HB1.out⟩
    case round =>
      obtain ⟨m, q, o, rl, rc, zs, rows, A, an, ac, rfl, hm, rfl, rfl, hrl, hra, HC, HRD, HBZ, HOW, HRO, HD, HQ, HPP, HBW⟩ := hrel
      clear HP HRD1 HC2 HG1 HBYY HB1
      rcases m with _ | m
      · -- nothing more is to be read
        cases zs with
        | nil =>
          obtain rfl : rl = 0 := HRD.out.len
          go_wp2
          go_ret2
          exact ⟨HBW.out, .inr ⟨rows, A, an, ac, by rw [HPP.out]; simp [goP, goV], rfl, HOW.out.rd BRow.l_len, (fun r hr => (HRO.out r hr).1), by omega⟩⟩
        | cons z zs =>
          have hrl0 : 0 < rl := by rw [HRD.out.len]; simp
          go_wp2
          go_ret2
          exact ⟨HBW.out, .inl ⟨by rw [HPP.out]; rfl, rfl⟩⟩
      · have hT := take_calls q o rl rc zs wr HRD.out HBZ.out (by omega) hrl HC.out
        have HT := Lib.hid hT
        clear hT
        go_wp2_with fail
        refine HT.out.mono ?_
        rintro e w2 ⟨hb2, ⟨ht, rfl⟩ | ⟨k, t, g2, cp2, ht, hk, rfl, hown2⟩⟩
        · have HPN : Hid (partsV xs = none) := by unfold Hid; rw [HPP.out]; exact goP_none ht
          have HB2 := Lib.hid (HBW.out.trans (hb2.mono HBW.out.size))
          clear hb2
          go_wp2
          go_ret2
          exact ⟨HB2.out, .inl ⟨HPN.out, rfl⟩⟩
        · have HB2 := Lib.hid (HBW.out.trans (hb2.mono HBW.out.size))
          by_cases hkt : k ≤ t.length
          case neg =>
            have HPN : Hid (partsV xs = none) := by unfold Hid; rw [HPP.out]; exact goP_far ht hkt
            clear hb2 hown2
            go_wp2
            go_ret2
            exact ⟨HB2.out, .inl ⟨HPN.out, rfl⟩⟩
          case pos =>
            have hless : t.length < rl := by rw [HRD.out.len]; exact (take_less zs 0 0 ht).1
            have HBT : Hid (Bytes t) := by
              obtain ⟨_, p, hp⟩ := take_less zs 0 0 ht
              intro x hx
              exact HBZ.out x (by rw [← hp]; exact List.mem_append_right _ hx)
            have HPN : Hid (partsV xs = goP (rows.map BRow.xs ++ [t.take k]) m (t.drop k)) := by unfold Hid; rw [HPP.out]; exact goP_step ht hkt
            obtain ⟨hc3, hc4, _⟩ := own_caps hown2
            have HC4 := Lib.hid hc4
            have hg2 : wr.heap.size ≤ g2 ∧ g2 < w2.heap.size := by
              rcases hown2.shape with ⟨h, _⟩ | ⟨x, h, h2, h3⟩
              · cases h
              · injection h with h; injection h with h; subst h; exact ⟨h2, h3⟩
            have HG2 := Lib.hid hg2
            have HT2 := Lib.hid (hown2.rd encB_len)
            have HOW2 := Lib.hid (HOW.out.below hb2)
            have HRO2 : Hid (∀ r ∈ rows, BRowOk w2 r ∧ ∀ a, r.A = some a → a.block < w2.heap.size) := fun r hr => ⟨(HRO.out r hr).1.below hb2, fun a ha => Nat.lt_of_lt_of_le ((HRO.out r hr).2 a ha) hb2.size⟩
            have HOLD : Hid (∀ x, A = some ⟨x, 0, none⟩ → x < wr.heap.size) := fun x hx => by
              rcases HOW.out.shape with ⟨h, _⟩ | ⟨y, h, _, h3⟩
              · rw [h] at hx; cases hx
              · rw [h] at hx; injection hx with hx; injection hx with hx; omega
            clear hb2 hown2 hc4 hg2 ht HRD HBZ HOW HRO HPP HBW HT HQ HC
            have hkt' : (k : Int) ≤ (t.length : Int) := by omega
            obtain ⟨tl, htl⟩ : ∃ tl, tl = t.length := ⟨_, rfl⟩
            rw [← htl] at hkt hkt' hless hc3
            have HTL := Lib.hid htl
            rw [← htl]
            clear htl
            have hbase := Lib.hid HB2.out.size
            go_wp2_with (at_builtin; refine app_row rfl (.tmp 37) (.tmp 42) rfl ⟨some ⟨g2, 0, none⟩, k, k, t.take k⟩ rfl HOW2.out rfl rfl (by omega) hbase.out ?_; intro g3 ac' w4 h1 h2 h3 h4)
            have hneA : ∀ x, A = some ⟨x, 0, none⟩ → x ≠ g2 := fun x hx => by have := HOLD.out x hx; have := HG2.out.1; omega
            have HT4 : Hid (RdB w4 (some ⟨g2, 0, none⟩) tl t) := by
              rw [HTL.out]
              exact HT2.out.only h2 (fun a ha => by
                injection ha with ha; subst ha
                exact fun he => hneA g2 he rfl)
            have HRO4 : Hid (∀ r ∈ rows, BRowOk w4 r ∧ ∀ a, r.A = some a → a.block < w4.heap.size) := fun r hr => ⟨(HRO2.out r hr).1.only h2 (fun a ha he => (HD.out a.block he).2 r hr a ha rfl), fun a ha => Nat.lt_of_lt_of_le ((HRO2.out r hr).2 a ha) h2.size⟩
            have HB4 := Lib.hid (HB2.out.trans (h2.below hbase.out (own_above HOW2.out)))
            have HO4 := Lib.hid h1
            have hs4 : w2.heap.size ≤ w4.heap.size := h2.size
            obtain ⟨oo, hoo⟩ : ∃ oo, (if cp2 = k then some (⟨g2, 0, none⟩ : Addr) else some ⟨g2, k, none⟩) = some ⟨g2, oo, none⟩ ∧ RdB w4 (some ⟨g2, oo, none⟩) (tl - k) (t.drop k) := by
              by_cases hck : cp2 = k
              · refine ⟨0, by rw [if_pos hck], ?_⟩
                have e1 : tl - k = 0 := by omega
                have e2 : t.drop k = [] := List.drop_eq_nil_of_le (by rw [← HTL.out]; omega)
                rw [e1, e2]
                exact Rd.nil _ _ _ _
              · refine ⟨k, by rw [if_neg hck], ?_⟩
                have := rdb_drop HT4.out k
                rwa [Nat.zero_add] at this
            rw [hoo.1]
            refine ⟨⟨m, g2, oo, tl - k, cp2 - k, t.drop k, rows ++ [(⟨some ⟨g2, 0, none⟩, k, k, t.take k⟩ : BRow)], some ⟨g3, 0, none⟩, an + 1, ac', rfl, by omega, rfl, rfl, by omega, by omega, by unfold Hid; have := HC4.out; omega, hoo.2, fun x hx => HBT.out x (List.mem_of_mem_drop hx), HO4.out, ?_, ?_, by unfold Hid; have := HG2.out.2; omega, by unfold Hid; rw [HPN.out]; simp, HB4.out⟩, by simp only; omega⟩
            · intro r hr
              rcases List.mem_append.1 hr with hr | hr
              · exact HRO4.out r hr
              · simp only [List.mem_cons, List.not_mem_nil, or_false] at hr
                subst hr
                exact ⟨⟨rd_take HT4.out hkt, fun h => by cases h⟩, fun a ha => by injection ha with ha; subst ha; have := HG2.out.2; simp only; omega⟩
            · intro x hx
              injection hx with hx; injection hx with hx
              subst hx
              have hg3 : g3 ≠ g2 := by
                rcases h3 with h3 | h3
                · exact hneA g3 h3
                · have := HG2.out.2; omega
              refine ⟨fun e => hg3 e.symm, fun r hr a ha e => ?_⟩
              rcases List.mem_append.1 hr with hr | hr
              · rcases h3 with h3 | h3
                · exact (HD.out g3 h3).2 r hr a ha e
                · have := (HRO2.out r hr).2 a ha; omega
              · simp only [List.mem_cons, List.not_mem_nil, or_false] at hr
                subst hr
                injection ha with ha; subst ha
                exact hg3 e.symm
end Go.Proofs.YtonghiaocpenaaaDoor
