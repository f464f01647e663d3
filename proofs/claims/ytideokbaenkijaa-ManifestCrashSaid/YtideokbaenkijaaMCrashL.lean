/-
  ManifestCrash, walked.
-/
import Derived.Test.YtideokbaenkijaaMREnc
import Derived.Test.YtideokbaenkijaaMTorn
import Derived.Test.YtideokbaenkijaaMOpen
namespace Go.Proofs.Ytideokbaenkijaa
open Go.RowKit

/-- A state of a row of states, with where its tables lie. -/
structure SRow where
  s : StateD
  A : Option Addr
  k : Nat
  c : Nat
abbrev SRow.l (r : SRow) : List Value := [.int .i64 r.s.gen, .int .i64 r.s.app, .int .i64 r.s.next, .slice r.A r.k r.c]
theorem SRow.l_len (r : SRow) : r.l.length = 4 := rfl
/-- What a loop's round begins with. -/
structure CrashIn (w W wr : World) (bd bl : Nat) (S : Nat → Prop) (ss : List StateD) (last : StateD) (LA : Option Addr) (lk lc : Nat) (AL : Option Addr) (an cap base : Nat) : Prop where
  inv : InvS S wr bd 1048576 ss
  low : ∀ k, S k → W.heap.size ≤ k
  nbox : ¬ S bl
  nall : ∀ x, AL = some ⟨x, 0, none⟩ → ¬ S x ∧ x ≠ bl
  all : OwnB wr base AL an cap (fileS ss)
  lowb : W.heap.size ≤ base
  box : wr.heap[bl]? = some (.cells #[.int .i64 last.gen, .int .i64 last.app, .int .i64 last.next, .slice LA lk lc] 24)
  bl : W.heap.size ≤ bl
  tabs : RdN w LA lk last.tabs
  nil : LA = none → lc = 0
  few : lk ≤ 60
  is : last = lastS firstS ss
  below : Below w.heap.size w wr
  start : w.heap.size ≤ W.heap.size
  bw : base ≤ wr.heap.size

theorem InvS.short {S : Nat → Prop} {w1 : World} {bd L : Nat} {ss : List StateD} (h : InvS S w1 bd L ss) : (fileS ss).length ≤ 2600 ∧ (∀ s ∈ ss, rightS s = true) ∧ Chain true firstS ss := by
  obtain ⟨D, h1, _⟩ := h
  exact ⟨h1.short, h1.right, h1.chain⟩
theorem CrashIn.lt {w W wr : World} {bd bl lk lc an cap base : Nat} {S : Nat → Prop} {ss : List StateD} {last : StateD} {LA AL : Option Addr} (h : CrashIn w W wr bd bl S ss last LA lk lc AL an cap base) : bl < wr.heap.size ∧ ∀ x, AL = some ⟨x, 0, none⟩ → x < wr.heap.size := by
  refine ⟨(Array.getElem?_eq_some_iff.1 h.box).1, fun x hx => ?_⟩
  have := h.all
  rw [hx] at this
  exact own_lt this
theorem more_ne (ss : List StateD) (s : StateD) : moreS ss s ≠ [] := by
  unfold moreS
  split <;> simp
/-- A save that changed no file of states. -/
theorem crash_no {w W wr w5 w6 : World} {bd bl lk lc an cap base : Nat} {S : Nat → Prop} {ss : List StateD} {last : StateD} {LA AL : Option Addr} (h : CrashIn w W wr bd bl S ss last LA lk lc AL an cap base)
    (hb : Below wr.heap.size wr w5) (ho : Only S w5 w6) (hi : InvS (Plus S w5.heap.size) w6 bd 1048576 ss) : CrashIn w W w6 bd bl (Plus S w5.heap.size) ss last LA lk lc AL an cap base := by
  obtain ⟨l1, l2⟩ := h.lt
  have hs5 := hb.size
  have hst := h.start
  have hbw := h.below.size
  have hWr : W.heap.size ≤ wr.heap.size := Nat.le_trans h.bl (Nat.le_of_lt l1)
  refine ⟨hi, fun k hk => ?_, fun hk => ?_, fun x hx => ⟨fun hk => ?_, (h.nall x hx).2⟩, ?_, h.lowb, ?_, h.bl, h.tabs, h.nil, h.few, h.is, ?_, hst, Nat.le_trans h.bw (Nat.le_trans hs5 ho.size)⟩
  · rcases hk with hk | hk
    · exact h.low k hk
    · omega
  · rcases hk with hk | hk
    · exact h.nbox hk
    · omega
  · rcases hk with hk | hk
    · exact (h.nall x hx).1 hk
    · have := l2 x hx; omega
  · exact (h.all.below hb).only ho fun x hx => (h.nall x hx).1
  · rw [ho.block bl (by omega) h.nbox, hb.block bl l1]
    exact h.box
  · exact (h.below.trans (hb.mono h.below.size)).trans (ho.below (Nat.le_trans hbw hs5) fun k hk => Nat.le_trans hst (h.low k hk))
set_option maxHeartbeats 1000000 in
set_option maxRecDepth 20000 in
theorem crash_law (A : Option Addr) (n ca : Nat) (rows : List SRow) (keep : Int) (w : World) (h : Rd 4 SRow.l w A n rows ∧ ∀ r ∈ rows, StateIn w r.s r.A r.k r.c) (hg : -9223372036854775808 ≤ keep ∧ keep < 9223372036854775808) (_ : True) :
    Calls Try.prog 6 #[.slice A n ca, .int .i64 keep] w fun e w' => e = .returned (.bool true) ∧ Below w.heap.size w w' := by
  obtain ⟨hrd, hin⟩ := h
  have HAL := Lib.hid (alive_calls w)
  have HRD := Lib.hid hrd
  have HIN := Lib.hid hin
  clear hrd hin
  go_enter Try.func6, Try.ntmps6
  go_wp2_with fail
  refine HAL.out.mono ?_
  rintro e w1 ⟨rfl, hb1⟩
  have HB1 := Lib.hid hb1
  clear hb1 HAL
  by_cases hn : n > 100
  · have hn' : (n : Int) > 100 := by omega
    go_wp2_with fail
    go_ret
    exact ⟨rfl, HB1.out⟩
  have hn' : ¬ (n : Int) > 100 := by omega
  have hn1 : n ≤ 100 := by omega
  have HNW := Lib.hid (invS_new 1048576 w1 (by decide))
  clear hn
  go_wp2_with fail
  refine HNW.out.mono ?_
  rintro e w2 ⟨bd, rfl, hi, hb2⟩
  have HI := Lib.hid hi
  have HB2 := Lib.hid (HB1.out.trans (hb2.mono HB1.out.size))
  have HZ2 := Lib.hid hb2.size
  clear hi hb2 HNW
  have hbl : Below w2.heap.size w2 (w2.alloc (.cells #[] 5)) := (Below.refl _ _).alloc (Nat.le_refl _) _
  have hlit := Own.lit 5 1 encB w2 w2.heap.size (Nat.le_refl _)
  have HFI := Lib.hid (rfirst_calls (w2.alloc (.cells #[] 5)))
  have HLI := Lib.hid hlit
  have HBL := Lib.hid hbl
  have HS2 : Hid ((w2.alloc (.cells #[] 5)).heap.size = w2.heap.size + 1) := by unfold Hid; simp
  clear hbl hlit
  go_wp2_with fail
  refine HFI.out.mono ?_
  rintro e w3 ⟨rfl, hb3⟩
  have hba : Below w3.heap.size w3 (w3.alloc (.cells #[.int .i64 firstS.gen, .int .i64 firstS.app, .int .i64 firstS.next, .slice none 0 0] 24)) := (Below.refl _ _).alloc (Nat.le_refl _) _
  have hbx := heap_alloc_new w3 (.cells #[.int .i64 firstS.gen, .int .i64 firstS.app, .int .i64 firstS.next, .slice none 0 0] 24)
  obtain ⟨W4, hW4⟩ : ∃ W4, W4 = w3.alloc (.cells #[.int .i64 firstS.gen, .int .i64 firstS.app, .int .i64 firstS.next, .slice none 0 0] 24) := ⟨_, rfl⟩
  rw [← hW4] at hba hbx
  have h24 : Below w2.heap.size w2 W4 := HBL.out.trans ((hb3.trans (hba.mono hb3.size)).mono HBL.out.size)
  have HST : Hid (CrashIn w w1 W4 bd w3.heap.size (fun k => w1.heap.size ≤ k ∧ k < w2.heap.size) [] firstS none 0 0 (some ⟨w2.heap.size, 0, none⟩) 0 0 w2.heap.size) := by
    have hs3 := hb3.size
    have hs2 := HS2.out
    have hz2 := HZ2.out
    refine ⟨HI.out.tight.below h24, fun k hk => hk.1, fun hk => ?_, fun x hx => ?_, (HLI.out.below hb3).below hba, hz2, hbx, ?_, Rd.nil _ _ _ _, fun _ => rfl, Nat.zero_le _, rfl, HB2.out.trans (h24.mono HB2.out.size), HB1.out.size, h24.size⟩
    · have := hk.2; omega
    · injection hx with hx; injection hx with hx
      exact ⟨fun hk => by have := hk.2; omega, by omega⟩
    · omega
  obtain ⟨bl, hbl⟩ : ∃ bl, bl = w3.heap.size := ⟨_, rfl⟩
  rw [← hbl] at HST
  clear hb3 hba hbx h24 HFI HLI HBL HS2 HI HB2 HZ2
  go_wp2_with fail
  rw [← hW4, ← hbl]
  clear hW4 hbl
  go_loopw [7, 9] (fun av iv wr => ∃ (j an cap base : Nat) (AL : Option Addr) (ss : List StateD) (S : Nat → Prop) (last : StateD) (LA : Option Addr) (lk lc : Nat), j ≤ n ∧ iv = .int .i64 j ∧ av = .slice AL an cap ∧ Hid (CrashIn w w1 wr bd bl S ss last LA lk lc AL an cap base)) (fun _ iv _ => n - (intOf iv).toNat)
  case atStart => exact ⟨0, 0, 0, _, _, [], _, firstS, none, 0, 0, Nat.zero_le _, rfl, rfl, HST.out⟩
  case round =>
    obtain ⟨j, an, cap, base, AL, ss, S, last, LA, lk, lc, hj, rfl, rfl, HC⟩ := hrel
    by_cases hjn : j < n
    · obtain ⟨r, b, off, hr, rfl, _, h8⟩ := (HRD.out.below HC.out.below).get j hjn
      have r0 := h8 0 _ rfl
      have r1 := h8 1 _ rfl
      have r2 := h8 2 _ rfl
      have r3 := h8 3 _ rfl
      simp only [Nat.add_zero] at r0
      have hin := HIN.out r (List.mem_of_getElem? hr)
      have HRI := Lib.hid hin
      have HRW := Lib.hid hr
      clear h8 hin hr
      by_cases hk : r.k > 60
      · have hk' : (r.k : Int) > 60 := by omega
        go_wp2_with fail
        go_ret
        exact ⟨rfl, HC.out.below⟩
      have hk' : ¬ (r.k : Int) > 60 := by omega
      have hk6 : r.k ≤ 60 := by omega
      clear hk
      have HOF := Lib.hid (of_calls r.s r.A r.k r.c wr (HRI.out.rd.below HC.out.below) HRI.out.nil (by omega))
      go_wp2_with fail
      refine HOF.out.mono ?_
      rintro e w5 ⟨g, mc, rfl, ho, hb5⟩
      obtain ⟨hsh, hrt, _⟩ := HC.out.inv.short
      cases hf : fitsS ss r.s with
      | false =>
        have HSV := Lib.hid (invS_no (HC.out.inv.below hb5) r.s hf (some ⟨g, 0, none⟩) r.k mc (ho.rd encN_len) (fun e => by cases e) (by omega) (fun h => by have := frame_len h; omega))
        have HB5 := Lib.hid hb5
        have hrj : wrap64 ((j : Int) + 1) = ((j + 1 : Nat) : Int) := by unfold wrap64; omega
        have hms : n - (j + 1) < n - j := Nat.sub_lt_sub_left hjn (Nat.lt_succ_self j)
        clear ho hb5 HOF hsh hrt hf r0 r1 r2 r3
        go_wp2_with fail
        refine HSV.out.mono ?_
        rintro e w6 ⟨rfl, hi, ho⟩
        have HN := Lib.hid (crash_no HC.out HB5.out ho hi)
        clear hi ho HSV HC
        go_wp2_with (first
          | (go_roundw
             case rel => exact ⟨j + 1, an, cap, base, AL, ss, _, last, LA, lk, lc, hjn, by go_num, rfl, HN.out⟩
             case measure => simp [intOf]; exact hms)
          | fail)
      | true =>
        have hrs : rightS r.s = true := by
          unfold fitsS at hf
          rw [Bool.and_eq_true] at hf
          exact hf.1
        have HSV := Lib.hid (invS_yes (HC.out.inv.below hb5) r.s hf (some ⟨g, 0, none⟩) r.k mc (ho.rd encN_len) (fun e => by cases e) (by omega) (by have := frame_len hrs; omega))
        have HB5 := Lib.hid hb5
        have HRS := Lib.hid hrs
        have hms : n - (j + 1) < n - j := Nat.sub_lt_sub_left hjn (Nat.lt_succ_self j)
        have HR0 := Lib.hid r0
        have HR1 := Lib.hid r1
        have HR2 := Lib.hid r2
        have HR3 := Lib.hid r3
        clear ho hb5 HOF hsh hrt hf hrs r0 r1 r2 r3
        go_wp2_with fail
        refine HSV.out.mono ?_
        rintro e w6 ⟨rfl, hi, ho⟩
        obtain ⟨l1, l2⟩ := HC.out.lt
        have hst := HC.out.start
        have hbw := HC.out.below.size
        have hs5 := HB5.out.size
        have hb6 : Below w.heap.size w w6 := (HC.out.below.trans (HB5.out.mono hbw)).trans (ho.below (Nat.le_trans hbw hs5) fun k hk => Nat.le_trans hst (HC.out.low k hk))
        have hbx6 : w6.heap[bl]? = some (.cells #[.int .i64 last.gen, .int .i64 last.app, .int .i64 last.next, .slice LA lk lc] 24) := by
          rw [ho.block bl (by omega) HC.out.nbox, HB5.out.block bl l1]
          exact HC.out.box
        obtain ⟨b', off', eb, _, h8⟩ := (HRD.out.below hb6).at_ j r HRW.out
        injection eb with eb
        injection eb with eb1 eb2 _
        subst eb1 eb2
        have r0 := h8 0 _ rfl
        have r1 := h8 1 _ rfl
        have r2 := h8 2 _ rfl
        have r3 := h8 3 _ rfl
        simp only [Nat.add_zero] at r0
        obtain ⟨m0, m1, m2, m3, mf⟩ := box4 hbx6
        obtain ⟨t1, t2⟩ := set4 hbx6 (.int .i64 r.s.gen) (.int .i64 r.s.app) (.int .i64 r.s.next) (.slice r.A r.k r.c)
        obtain ⟨W7, hW7⟩ : ∃ W7, W7 = (((w6.setCell ⟨bl, 0, none⟩ (.int .i64 r.s.gen)).setCell ⟨bl, 1, none⟩ (.int .i64 r.s.app)).setCell ⟨bl, 2, none⟩ (.int .i64 r.s.next)).setCell ⟨bl, 3, none⟩ (.slice r.A r.k r.c) := ⟨_, rfl⟩
        rw [← hW7] at t1 t2
        have hi7 : InvS (Plus S w5.heap.size) W7 bd 1048576 (moreS ss r.s) := hi.only t2 fun k hk e => by
          subst e
          rcases hk with hk | hk
          · exact HC.out.nbox hk
          · omega
        have HLD := Lib.hid (invS_load hi7)
        rw [last_more] at HLD
        have HI7 := Lib.hid hi7
        have HB7 : Hid (Below w.heap.size w W7) := hb6.trans (t2.below hb6.size fun k hk => by have := HC.out.bl; omega)
        have HT7 := Lib.hid t1
        have HLO : Hid (∀ k, Plus S w5.heap.size k → w1.heap.size ≤ k) := fun k hk => by
          have h5 := HC.out.bl
          rcases hk with hk | hk
          · exact HC.out.low k hk
          · omega
        have HNB : Hid (¬ Plus S w5.heap.size bl) := fun hk => by
          rcases hk with hk | hk
          · exact HC.out.nbox hk
          · omega
        have HBL : Hid (w1.heap.size ≤ bl ∧ bl < W7.heap.size ∧ w.heap.size ≤ w1.heap.size) := ⟨HC.out.bl, (Array.getElem?_eq_some_iff.1 t1).1, hst⟩
        clear hi ho l1 l2 hst hbw hs5 hb6 hbx6 h8 t1 t2 hi7 HSV HC HR0 HR1 HR2 HR3 HB5
        go_wp2_with fail
        rw [← hW7]
        clear hW7 m0 m1 m2 m3 mf r0 r1 r2 r3
        refine HLD.out.mono ?_
        rintro e w8 ⟨⟨B, kb, cb, rfl, hrb, hbn, hkb⟩, hb8⟩
        have hba : Below w8.heap.size w8 (w8.alloc (.cells #[.int .i64 r.s.gen, .int .i64 r.s.app, .int .i64 r.s.next, .slice B kb cb] 29)) := (Below.refl _ _).alloc (Nat.le_refl _) _
        have h78 := hb8.trans (hba.mono hb8.size)
        obtain ⟨x0, x1, x2, x3, xf⟩ := box4 (heap_alloc_new w8 (.cells #[.int .i64 r.s.gen, .int .i64 r.s.app, .int .i64 r.s.next, .slice B kb cb] 29))
        have hl8 := (h78.block bl HBL.out.2.1).trans HT7.out
        obtain ⟨l0, l1, l2, l3, lf⟩ := box4 hl8
        have HL8 := Lib.hid hl8
        have HB8 := Lib.hid (HB7.out.trans (h78.mono HB7.out.size))
        have HI8 := Lib.hid (HI7.out.below h78)
        have HZ8 := Lib.hid (Nat.lt_of_lt_of_le HBL.out.2.1 h78.size)
        have HSM := Lib.hid (same_calls r.s r.s B r.A kb r.k cb r.c (w8.alloc (.cells #[.int .i64 r.s.gen, .int .i64 r.s.app, .int .i64 r.s.next, .slice B kb cb] 29)) (hrb.below hba) (HRI.out.rd.below HB8.out) HRI.out.nil (by omega) (by omega))
        clear hrb hbn hkb hb8 hba h78 hl8 HLD HI7 HT7 HB7
        go_wp2_with fail
        refine HSM.out.mono ?_
        rintro e w9 ⟨rfl, hb9⟩
        rw [show decide True = true from rfl]
        have HI9 := Lib.hid (HI8.out.below hb9)
        have HB9 := Lib.hid (HB8.out.trans (hb9.mono HB8.out.size))
        have HL9 := Lib.hid ((hb9.block bl HZ8.out).trans HL8.out)
        have HZ9 := Lib.hid (Nat.lt_of_lt_of_le HZ8.out hb9.size)
        have HLS := Lib.hid (invS_loose HI9.out)
        clear hb9 HSM HI8 HB8 HL8 HZ8 x0 x1 x2 x3 xf l0 l1 l2 l3 lf
        go_wp2_with fail
        refine HLS.out.mono ?_
        rintro e w10 ⟨rfl, hb10⟩
        have HI10 := Lib.hid (HI9.out.below hb10)
        have HB10 := Lib.hid (HB9.out.trans (hb10.mono HB9.out.size))
        have HL10 := Lib.hid ((hb10.block bl HZ9.out).trans HL9.out)
        have HZ10 := Lib.hid (Nat.lt_of_lt_of_le HZ9.out hb10.size)
        have HRE := Lib.hid (invS_read HI10.out (more_ne ss r.s))
        clear hb10 HLS HI9 HB9 HL9 HZ9
        go_wp2_with fail
        refine HRE.out.mono ?_
        rintro e w11 ⟨⟨v, rfl, hv⟩, hb11⟩
        obtain ⟨AL2, cap2, rfl, hown⟩ := hv.own
        have HN : Hid (CrashIn w w1 w11 bd bl (fun k => Plus S w5.heap.size k ∧ k < w10.heap.size) (moreS ss r.s) r.s r.A r.k r.c AL2 (fileS (moreS ss r.s)).length cap2 w10.heap.size) := by
          have h1 := HBL.out
          have h2 := HZ10.out
          refine ⟨HI10.out.tight.below hb11, fun k hk => HLO.out k hk.1, fun hk => HNB.out hk.1, fun x hx => ?_, hown, by omega, (hb11.block bl h2).trans HL10.out, h1.1, HRI.out.rd, HRI.out.nil, hk6, (last_more _ _ _).symm, HB10.out.trans (hb11.mono HB10.out.size), h1.2.2, hb11.size⟩
          have h3 := own_above hown x hx
          exact ⟨fun hk => by have := hk.2; omega, by omega⟩
        have hrj : wrap64 ((j : Int) + 1) = ((j + 1 : Nat) : Int) := by unfold wrap64; omega
        generalize (fileS (moreS ss r.s)).length = an2 at HN ⊢
        clear hv hb11 hown HRE HI10 HB10 HL10 HZ10 HLO HNB HBL
        go_wp2_with (first
          | (go_roundw
             case rel => exact ⟨j + 1, an2, cap2, _, AL2, moreS ss r.s, _, r.s, r.A, r.k, r.c, hjn, by go_num, rfl, HN.out⟩
             case measure => simp [intOf]; exact hms)
          | fail)
    · obtain ⟨l0, l1, l2, l3, lf⟩ := box4 HC.out.box
      obtain ⟨hsh, hrt, hch⟩ := HC.out.inv.short
      have hgb : 0 ≤ last.gen ∧ last.gen ≤ 1099511627776 := by
        rw [HC.out.is]
        by_cases he : ss = []
        · subst he; exact ⟨by decide, by decide⟩
        · have := right_iff.1 (last_right (last := firstS) he hrt)
          exact ⟨by have := this.g0; omega, this.g1⟩
      obtain ⟨g1, hg1⟩ : ∃ g1, g1 = last.gen + 1 := ⟨_, rfl⟩
      have HWG : Hid (wrap64 (last.gen + 1) = g1) := by unfold Hid wrap64; omega
      have HG1 := Lib.hid hg1
      have HSH := Lib.hid hsh
      have HRT := Lib.hid hrt
      have HCH := Lib.hid hch
      have hy1 : Below wr.heap.size wr (wr.alloc (.cells #[.int .i64 8] 3)) := (Below.refl _ _).alloc (Nat.le_refl _) _
      obtain ⟨Y2, hY2⟩ : ∃ Y2, Y2 = (wr.alloc (.cells #[.int .i64 8] 3)).alloc (.cells #[.int .i64 g1, .int .i64 7, .int .i64 9, .slice (some ⟨wr.heap.size, 0, none⟩) 1 1] 24) := ⟨_, rfl⟩
      have hy2 : Below wr.heap.size wr Y2 := by rw [hY2]; exact hy1.alloc hy1.size _
      have hr8 : RdN Y2 (some ⟨wr.heap.size, 0, none⟩) 1 [8] := by
        rw [hY2]
        exact (lit_ints (w := wr) (cs := #[.int .i64 8]) [8] rfl (by decide)).below ((Below.refl _ _).alloc (Nat.le_refl _) _)
      have hn2 : Y2.heap[wr.heap.size + 1]? = some (.cells #[.int .i64 g1, .int .i64 7, .int .i64 9, .slice (some ⟨wr.heap.size, 0, none⟩) 1 1] 24) := by rw [hY2]; exact box_next
      have hb2 := (hy2.block bl HC.out.lt.1).trans HC.out.box
      have HY2 := Lib.hid hy2
      have HR8 := Lib.hid hr8
      have HN2 := Lib.hid hn2
      have HB2 := Lib.hid hb2
      have HEN := Lib.hid (rencm_calls ⟨g1, 7, 9, [8]⟩ (some ⟨wr.heap.size, 0, none⟩) 1 1 Y2 hr8 (fun e => by cases e) (by decide))
      clear hsh hrt hch hgb hg1 hy1 hy2 hr8 hn2 hb2
      go_wp2_with fail
      rw [HWG.out, ← hY2]
      clear hY2 HWG l0 l1 l2 l3 lf
      refine HEN.out.mono ?_
      rintro e w5 ⟨hb5, ⟨_, rfl⟩ | ⟨hrn, B, m, fc, rfl, ho5⟩⟩
      · have HB5 := Lib.hid ((HC.out.below.trans (HY2.out.mono HC.out.below.size)).trans (hb5.mono (Nat.le_trans HC.out.below.size HY2.out.size)))
        clear hb5 HEN
        go_wp2_with fail
        go_ret
        exact ⟨rfl, HB5.out⟩
      have h25 := HY2.out.trans (hb5.mono HY2.out.size)
      have HRN := Lib.hid hrn
      have hml := ho5.1
      have hbl := bytesS_len hrn
      have HFR := Lib.hid (rframe_calls B m fc (bytesS ⟨g1, 7, 9, [8]⟩) w5 (ho5.rd encB_len) (own_nil_cap ho5) bytesS_bytes (by omega))
      have HR5 := Lib.hid (HR8.out.below hb5)
      have HL5 := Lib.hid (Nat.lt_of_lt_of_le (Nat.lt_of_lt_of_le HC.out.lt.1 HY2.out.size) hb5.size)
      have hnlt : wr.heap.size + 1 < Y2.heap.size := (Array.getElem?_eq_some_iff.1 HN2.out).1
      have HN5 := Lib.hid ((hb5.block _ hnlt).trans HN2.out)
      have HB5 := Lib.hid ((hb5.block _ (Nat.lt_of_lt_of_le HC.out.lt.1 HY2.out.size)).trans HB2.out)
      have HW5 := Lib.hid h25
      have HNL := Lib.hid (Nat.lt_of_lt_of_le hnlt hb5.size)
      clear h25 hrn hml hbl hb5 ho5 hnlt HEN HY2 HR8 HN2 HB2
      go_wp2_with fail
      refine HFR.out.mono ?_
      rintro e w6 ⟨F, fm, fcap, rfl, ho6, hb6⟩
      have HF6 := Lib.hid ho6
      have HR6 := Lib.hid (HR5.out.below hb6)
      have HN6 := Lib.hid ((hb6.block _ HNL.out).trans HN5.out)
      have HB6 := Lib.hid ((hb6.block _ HL5.out).trans HB5.out)
      have HW6 := Lib.hid (HW5.out.trans (hb6.mono HW5.out.size))
      obtain ⟨cut, hcut, hcle⟩ : ∃ cut : Nat, max (min keep (fm : Int)) 0 = (cut : Int) ∧ cut ≤ fm := ⟨(max (min keep (fm : Int)) 0).toNat, by omega, by omega⟩
      obtain ⟨fc1, fc2⟩ := own_cap ho6
      have hcc : (cut : Int) ≤ (fcap : Int) := by omega
      have hcc2 : cut ≤ fcap := by omega
      have hfl : fm ≤ 500 := by rw [ho6.1]; exact frame_len HRN.out
      have hf4 : 4 ≤ fm := by rw [ho6.1]; unfold frameL; rw [List.length_append, endL_len]; omega
      obtain ⟨gf, rfl⟩ : ∃ gf, F = some ⟨gf, 0, none⟩ := by
        rcases ho6.shape with ⟨e, _⟩ | ⟨x, e, _⟩
        · obtain ⟨_, _, _, _, e2, _⟩ := (ho6.rd encB_len).get 0 (by omega)
          rw [e] at e2
          cases e2
        · exact ⟨x, e⟩
      have HCR := Lib.hid (rd_take (ho6.rd encB_len) hcle)
      have HAO := Lib.hid (HC.out.all.below HW6.out)
      have han : an ≤ 2600 := by rw [HC.out.all.1]; exact HSH.out
      have HFL := Lib.hid ho6.1
      have HFC := Lib.hid fc2
      have HZB := Lib.hid HW6.out.size
      clear ho6 hb6 HFR HR5 HN5 HB5 HW5 fc1 fc2
      go_wp2_with (at_builtin; refine app_bytes rfl (.tmp 108) (.tmp 111) rfl rfl HAO.out rfl (fun e => by cases e) HCR.out (by omega) (Nat.le_trans HC.out.bw HZB.out) ?_; intro A7 cap7 w7 q1 q2 q3 q4)
      have hlt := HC.out.lt
      have hsz6 := HZB.out
      have hn6 : wr.heap.size + 1 < w6.heap.size := (Array.getElem?_eq_some_iff.1 HN6.out).1
      have hnot : ∀ x, AL = some ⟨x, 0, none⟩ → x < wr.heap.size ∧ x ≠ bl := fun x hx => ⟨hlt.2 x hx, (HC.out.nall x hx).2⟩
      have HN7 : Hid (w7.heap[wr.heap.size + 1]? = some (.cells #[.int .i64 g1, .int .i64 7, .int .i64 9, .slice (some ⟨wr.heap.size, 0, none⟩) 1 1] 24)) := (q2.block _ hn6 (fun hx => by have := (hnot _ hx).1; omega)).trans HN6.out
      have HB7 : Hid (w7.heap[bl]? = some (.cells #[.int .i64 last.gen, .int .i64 last.app, .int .i64 last.next, .slice LA lk lc] 24)) := (q2.block _ (by omega) (fun hx => (hnot _ hx).2 rfl)).trans HB6.out
      have HLN : Hid (wr.heap.size + 1 < w7.heap.size) := Nat.lt_of_lt_of_le hn6 q2.size
      have HLB : Hid (bl < w7.heap.size) := Nat.lt_of_lt_of_le (by omega) q2.size
      have HR7 : Hid (RdN w7 (some ⟨wr.heap.size, 0, none⟩) 1 [8]) := HR6.out.only q2 fun a ha hx => by
        injection ha with ha
        subst ha
        have := (hnot _ hx).1
        simp at this
      have HW7 : Hid (Below w.heap.size w w7) := (HC.out.below.trans (HW6.out.mono HC.out.below.size)).trans (q2.below (Nat.le_trans HC.out.below.size hsz6) fun x hx => by
        have h1 := own_above HC.out.all x hx
        have h2 := HC.out.lowb
        have h3 := HC.out.start
        omega)
      have hby : Bytes (fileS ss ++ (frameL (bytesS ⟨g1, 7, 9, [8]⟩)).take cut) := bytes_app (file_bytes ss) fun y hy => frameL_bytes bytesS_bytes y (List.mem_of_mem_take hy)
      obtain ⟨oc1, oc2⟩ := own_cap q1
      have HRD7 := Lib.hid (readm_calls A7 (an + cut) cap7 _ w7 (q1.rd encB_len) hby (by omega) oc1 oc2)
      have hxl : (bytesS ⟨g1, 7, 9, [8]⟩).length < 16384 := by have := bytesS_len HRN.out; omega
      have HXL := Lib.hid hxl
      have HANL := Lib.hid HC.out.all.1
      clear q1 q2 q3 q4 hby oc1 oc2 hlt hsz6 hn6 hnot hxl HN6 HB6 HR6 HAO HCR HF6 HZB HNL HL5
      by_cases hce : cut = fm
      · subst hce
        have HRS : Hid (readS (fileS ss ++ (frameL (bytesS ⟨g1, 7, 9, [8]⟩)).take cut) = some (⟨g1, 7, 9, [8]⟩, an + cut)) := by
          unfold Hid
          rw [List.take_of_length_le (Nat.le_of_eq HFL.out.symm), ← file_snoc]
          have hch : Chain true firstS (ss ++ [⟨g1, 7, 9, [8]⟩]) := chain_snoc HCH.out (fun _ => .inr (by rw [← HC.out.is]; exact HG1.out)) (fun h => by cases h)
          rw [read_file (fun t ht => by
            rcases List.mem_append.1 ht with ht | ht
            · exact HRT.out t ht
            · rw [List.mem_singleton.1 ht]; exact HRN.out) hch, last_snoc, file_snoc, List.length_append, ← HFL.out, ← HANL.out]
        have hw1 : wrap64 ((an : Int) + (cut : Int)) = (an : Int) + cut := by unfold wrap64; omega
        clear hcut hcle hcc hcc2
        refine HRD7.out.mono ?_
        rintro e w8 ⟨hb8, ⟨hno, _⟩ | ⟨s9, m9, B9, k9, c9, hs9, _, rfl, hr9, _, hk9, _⟩⟩
        · rw [HRS.out] at hno; cases hno
        have hse := hs9
        rw [HRS.out] at hse
        injection hse with hse
        injection hse with hse1 hse2
        have HS9 := Lib.hid hse1
        have HM9 := Lib.hid hse2
        have hba : Below w8.heap.size w8 (w8.alloc (.cells #[.int .i64 s9.gen, .int .i64 s9.app, .int .i64 s9.next, .slice B9 k9 c9] 29)) := (Below.refl _ _).alloc (Nat.le_refl _) _
        have h78 := hb8.trans (hba.mono hb8.size)
        obtain ⟨y0, y1, y2, y3, yf⟩ := box4 (heap_alloc_new w8 (.cells #[.int .i64 s9.gen, .int .i64 s9.app, .int .i64 s9.next, .slice B9 k9 c9] 29))
        obtain ⟨n0, n1, n2, n3, nf⟩ := box4 ((h78.block _ HLN.out).trans HN7.out)
        obtain ⟨l0, l1, l2, l3, lf⟩ := box4 ((h78.block _ HLB.out).trans HB7.out)
        have HB8 := Lib.hid (HW7.out.trans (h78.mono HW7.out.size))
        have HSM := Lib.hid (same_calls s9 ⟨g1, 7, 9, [8]⟩ B9 (some ⟨wr.heap.size, 0, none⟩) k9 1 c9 1 (w8.alloc (.cells #[.int .i64 s9.gen, .int .i64 s9.app, .int .i64 s9.next, .slice B9 k9 c9] 29)) (hr9.below hba) (HR7.out.below h78) (fun e => by cases e) (by omega) (by decide))
        rw [decide_eq_true HS9.out.symm] at HSM
        have hm9 : m9 = an + cut := HM9.out.symm
        clear hs9 hse1 hse2 hr9 hk9 hb8 hba h78 HRD7 HRS
        subst hm9
        go_wp2_with fail
        refine HSM.out.mono ?_
        rintro e w9 ⟨rfl, hb9⟩
        have HB9 := Lib.hid (HB8.out.trans (hb9.mono HB8.out.size))
        clear hb9 HSM y0 y1 y2 y3 yf n0 n1 n2 n3 nf l0 l1 l2 l3 lf
        go_wp2_with fail
        go_ret
        exact ⟨rfl, HB9.out⟩
      · have HRS : Hid (readS (fileS ss ++ (frameL (bytesS ⟨g1, 7, 9, [8]⟩)).take cut) = some (last, an)) := by
          unfold Hid
          rw [read_torn HRT.out HCH.out HXL.out (by rw [← HFL.out]; omega), ← HC.out.is, ← HANL.out]
        have hcq : ((cut : Int) == (fm : Int)) = false := beq_eq_false_iff_ne.2 (by omega)
        clear hcut hcle hcc hcc2
        refine HRD7.out.mono ?_
        rintro e w8 ⟨hb8, ⟨hno, _⟩ | ⟨s9, m9, B9, k9, c9, hs9, _, rfl, hr9, _, hk9, _⟩⟩
        · rw [HRS.out] at hno; cases hno
        have hse := hs9
        rw [HRS.out] at hse
        injection hse with hse
        injection hse with hse1 hse2
        have HS9 := Lib.hid hse1
        have HM9 := Lib.hid hse2
        have hba : Below w8.heap.size w8 (w8.alloc (.cells #[.int .i64 s9.gen, .int .i64 s9.app, .int .i64 s9.next, .slice B9 k9 c9] 29)) := (Below.refl _ _).alloc (Nat.le_refl _) _
        have h78 := hb8.trans (hba.mono hb8.size)
        obtain ⟨y0, y1, y2, y3, yf⟩ := box4 (heap_alloc_new w8 (.cells #[.int .i64 s9.gen, .int .i64 s9.app, .int .i64 s9.next, .slice B9 k9 c9] 29))
        obtain ⟨n0, n1, n2, n3, nf⟩ := box4 ((h78.block _ HLN.out).trans HN7.out)
        obtain ⟨l0, l1, l2, l3, lf⟩ := box4 ((h78.block _ HLB.out).trans HB7.out)
        have HB8 := Lib.hid (HW7.out.trans (h78.mono HW7.out.size))
        have HSM := Lib.hid (same_calls s9 last B9 LA k9 lk c9 lc (w8.alloc (.cells #[.int .i64 s9.gen, .int .i64 s9.app, .int .i64 s9.next, .slice B9 k9 c9] 29)) (hr9.below hba) (HC.out.tabs.below HB8.out) HC.out.nil (by omega) (by have := HC.out.few; omega))
        rw [decide_eq_true HS9.out.symm] at HSM
        have hm9 : m9 = an := HM9.out.symm
        clear hs9 hse1 hse2 hr9 hk9 hb8 hba h78 HRD7 HRS
        subst hm9
        go_wp2_with fail
        refine HSM.out.mono ?_
        rintro e w9 ⟨rfl, hb9⟩
        have HB9 := Lib.hid (HB8.out.trans (hb9.mono HB8.out.size))
        clear hb9 HSM y0 y1 y2 y3 yf n0 n1 n2 n3 nf l0 l1 l2 l3 lf
        go_wp2_with fail
        go_ret
        exact ⟨rfl, HB9.out⟩
end Go.Proofs.Ytideokbaenkijaa
