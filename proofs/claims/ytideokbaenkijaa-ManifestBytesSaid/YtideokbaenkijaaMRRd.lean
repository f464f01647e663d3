/-
  joistref11.Decode.
  joistref11.Read.
-/
import Derived.Test.YtideokbaenkijaaMRAl
import Derived.Test.YtideokbaenkijaaMREnc
import Derived.Test.YtideokbaenkijaaMDec
import Derived.Test.YtideokbaenkijaaMRead
namespace Go.Proofs.Ytideokbaenkijaa
open Go.RowKit

set_option maxHeartbeats 4000000 in
set_option maxRecDepth 20000 in
theorem rdecm_calls (A : Option Addr) (n cap : Nat) (xs : List Int) (w : World) (hx : RdB w A n xs) (hb : Bytes xs) (hn : n ≤ 1000000) (hcap : n ≤ cap) (hcm : cap ≤ maxLen) :
    Calls Try.prog 12 #[.slice A n cap] w (DecMOut xs w) := by
  obtain ⟨hbx, cv⟩ := one_box w (zeroS.cells none 0 0) 24
  obtain ⟨W0, hW0⟩ : ∃ W0, W0 = w.alloc (.cells #[.int .i64 0, .int .i64 0, .int .i64 0, .slice none 0 0] 24) := ⟨_, rfl⟩
  have hbx : Below w.heap.size w W0 := by rw [hW0]; exact hbx
  have HX := Lib.hid (hx.below hbx)
  have HBX := Lib.hid hbx
  have HBY := Lib.hid hb
  have HCM := Lib.hid hcm
  have HZ0 : Hid (W0.heap[w.heap.size]? = some (.cells #[.int .i64 0, .int .i64 0, .int .i64 0, .slice none 0 0] 24)) := by unfold Hid; rw [hW0]; exact heap_alloc_new _ _
  have HWZ : Hid (w.heap.size < W0.heap.size) := by unfold Hid; rw [hW0]; simp
  have hlb : Below W0.heap.size W0 (W0.alloc (.cells #[] 3)) := (Below.refl _ _).alloc (Nat.le_refl _) _
  have HLB := Lib.hid hlb
  have hws : W0.heap.size = w.heap.size + 1 := by rw [hW0]; simp
  have HWS := Lib.hid hws
  have HLI : Hid (OwnN (W0.alloc (.cells #[] 3)) W0.heap.size (some ⟨w.heap.size + 1, 0, none⟩) 0 0 []) := by
    have e : (⟨W0.heap.size, 0, none⟩ : Addr) = ⟨w.heap.size + 1, 0, none⟩ := by rw [hws]
    rw [← e]
    exact Own.lit 3 1 encN W0 W0.heap.size (Nat.le_refl _)
  clear hx hb hcm cv hbx hlb hws
  go_enter Try.func12, Try.ntmps12
  go_wp2_with fail
  rw [← hW0]
  clear hW0
  go_loopw [4, 5] (fun lv rv wr => ∃ (rl rc m lc : Nat) (R L : Option Addr) (zs ns : List Int), rv = .slice R rl rc ∧ lv = .slice L m lc ∧ m + rl ≤ n ∧ rl ≤ rc ∧ Hid (rc ≤ maxLen) ∧ Hid (RdB wr R rl zs) ∧ Hid (Bytes zs) ∧ Hid (OwnN wr W0.heap.size L m lc ns) ∧ Hid (∀ x, L = some ⟨x, 0, none⟩ → ∀ a, R = some a → 0 < rl → a.block ≠ x) ∧ Hid (decN xs = (decN zs).map fun l => ns ++ l) ∧ Hid (Below W0.heap.size W0 wr)) (fun _ rv _ => match rv with | .slice _ l _ => l | _ => 0)
  case atStart => exact ⟨n, cap, 0, 0, A, _, xs, [], rfl, rfl, by omega, hcap, HCM.out, HX.out.below HLB.out, HBY.out, HLI.out, (fun x hx a ha hp he => by injection hx with hx; injection hx with hx; subst hx; obtain ⟨b, o, e, hb⟩ := rdb_some HX.out hp; rw [e] at ha; injection ha with ha; subst ha; have he' : b = w.heap.size + 1 := he; have := HWS.out; omega), by unfold Hid; simp, HLB.out⟩
  case round =>
    obtain ⟨rl, rc, m, lc, R, L, zs, ns, rfl, rfl, hmr, hrc, HRC, HRD, HBZ, HOW, HAP, HDN, HB⟩ := hrel
    by_cases hpos : 0 < rl
    · obtain ⟨b, off, rfl, hbl⟩ := rdb_some HRD.out hpos
      have hpos' : (rl : Int) > 0 := by omega
      have HTK := Lib.hid (qtake_calls (some ⟨b, off, none⟩) rl rc zs wr HRD.out HBZ.out (by omega) (fun e => by cases e) hrc HRC.out)
      have hzne : zs ≠ [] := fun h => by have := HRD.out.len; rw [h] at this; simp at this; omega
      have HZN := Lib.hid hzne
      have HZL := Lib.hid HRD.out.len
      clear hzne hbl
      go_wp2_with fail
      refine HTK.out.mono ?_
      rintro e w2 ⟨hb2, ⟨ht, rfl⟩ | ⟨v, ys, g, c2, ht, hv, rfl, hown⟩⟩
      · have HFIN : Hid (decS xs = none) := by unfold Hid decS; rw [HDN.out, decN_none HZN.out ht]; rfl
        have HB2 := Lib.hid (HB.out.trans (hb2.mono HB.out.size))
        have hbk : w2.heap[w.heap.size]? = some (.cells #[.int .i64 0, .int .i64 0, .int .i64 0, .slice none 0 0] 24) := (HB2.out.block _ HWZ.out).trans HZ0.out
        obtain ⟨z0, z1, z2, z3, zf⟩ := box4 hbk
        have HBF := Lib.hid (HBX.out.trans (HB2.out.mono HBX.out.size))
        have HBK := Lib.hid hbk
        clear hb2 ht HTK hbk
        go_wp2_with fail
        obtain ⟨hs1, hs2⟩ := set4 HBK.out (.int .i64 0) (.int .i64 0) (.int .i64 0) (.slice none 0 0)
        obtain ⟨y0, y1, y2, y3, _⟩ := box4 hs1
        have hbf := HBF.out.trans (hs2.below HBF.out.size (fun i hi => Nat.le_of_eq hi.symm))
        refine bodyPost_ret (v := .tuple #[.agg #[.int .i64 0, .int .i64 0, .int .i64 0, .slice none 0 0], .bool false]) (by simp [results, Try.results12, go_sem, y0, y1, y2, y3]; try rfl) rfl ⟨hbf, .inl ⟨HFIN.out, rfl⟩⟩
      · have HFIN := Lib.hid (decN_step HDN.out HZN.out ht)
        have HB2 := Lib.hid (HB.out.trans (hb2.mono HB.out.size))
        have HOW2 := Lib.hid (HOW.out.below hb2)
        have hOlt : Hid (∀ x, L = some ⟨x, 0, none⟩ → x < wr.heap.size) := fun x hx => by
          rcases HOW.out.shape with ⟨h, _⟩ | ⟨y, h, _, h3⟩
          · rw [h] at hx; cases hx
          · rw [h] at hx; injection hx with hx; injection hx with hx; omega
        obtain ⟨hless, pp, hpp⟩ := take_less zs 0 0 ht
        have hyl : m + 1 + ys.length ≤ n := by have := HZL.out; omega
        have hless2 : ys.length < rl := by have := HZL.out; omega
        obtain ⟨hg1, hg2⟩ := own_cap hown
        have HBR : Hid (Bytes ys) := fun q hq => HBZ.out q (by rw [← hpp]; exact List.mem_append_right _ hq)
        have HGC := Lib.hid hg2
        have HGR := Lib.hid (hown.rd encB_len)
        have HG : Hid (wr.heap.size ≤ g ∧ g < w2.heap.size) := by
          rcases hown.shape with ⟨h, _⟩ | ⟨y, h, h2, h3⟩
          · cases h
          · injection h with h; injection h with h; subst h; exact ⟨h2, h3⟩
        have hbase := Lib.hid HB2.out.size
        have hm1 : m ≤ 1000000 := by omega
        obtain ⟨yl, hyl2⟩ : ∃ yl, yl = ys.length := ⟨_, rfl⟩
        rw [← hyl2] at hyl hless2 hg1 HGR ⊢
        clear hless hpp hg2 hown hb2 HTK HDN HRD HOW ht hyl2
        go_wp2_with (at_builtin; refine app_int rfl (.tmp 24) (.tmp 26) rfl v rfl HOW2.out rfl rfl (by omega) hbase.out ?_; intro g3 ac' w4 h1 h2 h3 h4)
        have HR4 : Hid (RdB w4 (some ⟨g, 0, none⟩) yl ys) := HGR.out.only h2 (fun a ha he => by injection ha with ha; subst ha; exact absurd (hOlt.out _ he) (Nat.not_lt.2 HG.out.1))
        have HB4 := Lib.hid (HB2.out.trans (h2.below hbase.out (own_above HOW2.out)))
        refine ⟨⟨yl, c2, m + 1, ac', some ⟨g, 0, none⟩, some ⟨g3, 0, none⟩, ys, ns ++ [(v : Int)], rfl, rfl, by omega, by omega, HGC.out, HR4.out, HBR.out, h1, ?_, HFIN.out, HB4.out⟩, by simp only; omega⟩
        intro y hy a ha _
        injection hy with hy; injection hy with hy
        injection ha with ha
        subst hy ha
        have := HG.out
        rcases h3 with h3 | h3
        · have := hOlt.out _ h3; show g ≠ _; omega
        · show g ≠ _; omega
    · have hz : zs = [] := List.eq_nil_of_length_eq_zero (by have := HRD.out.len; omega)
      have hrl0 : rl = 0 := by omega
      subst hz hrl0
      have HFIN : Hid (decS xs = ofN ns) := by unfold Hid decS; rw [HDN.out, decN_nil]; show ofN (ns ++ []) = _; rw [List.append_nil]
      have HML := Lib.hid HOW.out.1
      have hbk : wr.heap[w.heap.size]? = some (.cells #[.int .i64 0, .int .i64 0, .int .i64 0, .slice none 0 0] 24) := (HB.out.block _ HWZ.out).trans HZ0.out
      obtain ⟨z0, z1, z2, z3, zf⟩ := box4 hbk
      have HBF := Lib.hid (HBX.out.trans (HB.out.mono HBX.out.size))
      by_cases hm4 : m < 4
      · have HNO : Hid (decS xs = none) := by
          unfold Hid
          rw [HFIN.out]
          have := HML.out
          match ns with
          | [] => rfl
          | [_] => rfl
          | [_, _] => rfl
          | [_, _, _] => rfl
          | _ :: _ :: _ :: _ :: _ => simp at this; omega
        have hlt : (m : Int) < 4 := by omega
        have HBK := Lib.hid hbk
        clear HDN HRD HBZ HAP hpos hbk
        go_wp2_with fail
        obtain ⟨hs1, hs2⟩ := set4 HBK.out (.int .i64 0) (.int .i64 0) (.int .i64 0) (.slice none 0 0)
        obtain ⟨y0, y1, y2, y3, _⟩ := box4 hs1
        have hbf := HBF.out.trans (hs2.below HBF.out.size (fun i hi => Nat.le_of_eq hi.symm))
        refine bodyPost_ret (v := .tuple #[.agg #[.int .i64 0, .int .i64 0, .int .i64 0, .slice none 0 0], .bool false]) (by simp [results, Try.results12, go_sem, y0, y1, y2, y3]; try rfl) rfl ⟨hbf, .inl ⟨HNO.out, rfl⟩⟩
      · obtain ⟨g0, a0, q0, k0, ts, rfl⟩ : ∃ g a q k ts, ns = g :: a :: q :: k :: ts := by
          have := HML.out
          match ns with
          | [] => simp at this; omega
          | [_] => simp at this; omega
          | [_, _] => simp at this; omega
          | [_, _, _] => simp at this; omega
          | g :: a :: q :: k :: ts => exact ⟨g, a, q, k, ts, rfl⟩
        have HTL : Hid (m = ts.length + 4) := by have := HML.out; simpa [Hid] using this
        have hrd := HOW.out.rd encN_len
        have HRDL := Lib.hid hrd
        obtain ⟨lc1, lc2⟩ := own_cap HOW.out
        obtain ⟨x0, lb, lo, hx0, rfl, hlb, hc0⟩ := hrd.get 0 (by omega)
        obtain ⟨x1, _, _, hx1, e1, _, hc1⟩ := hrd.get 1 (by omega)
        cases e1
        obtain ⟨x2, _, _, hx2, e2, _, hc2⟩ := hrd.get 2 (by omega)
        cases e2
        obtain ⟨x3, _, _, hx3, e3, _, hc3⟩ := hrd.get 3 (by omega)
        cases e3
        cases hx0; cases hx1; cases hx2; cases hx3
        have l0 := hc0 0 _ rfl
        have l1 := hc1 0 _ rfl
        have l2 := hc2 0 _ rfl
        have l3 := hc3 0 _ rfl
        simp only [Nat.mul_one, Nat.add_zero] at l0 l1 l2 l3
        have hge : ¬ (m : Int) < 4 := by omega
        have hm1 : (0 : Nat) < m ∧ 1 < m ∧ 2 < m ∧ 3 < m := by omega
        obtain ⟨hm10, hm11, hm12, hm13⟩ := hm1
        have hi1 : (1 : Int) < (m : Int) := by omega
        have hi2 : (2 : Int) < (m : Int) := by omega
        have hi4 : (4 : Int) ≤ (m : Int) := by omega
        have hi5 : (4 : Int) ≤ (lc : Int) := by omega
        have hi6 : (m : Int) ≤ (lc : Int) := by omega
        have hi7 : m ≤ lc := lc1
        have hw4 : wrap64 ((m : Int) - 4) = (m : Int) - 4 := by unfold wrap64; omega
        have HBK := Lib.hid hbk
        clear hc0 hc1 hc2 hc3 hrd HDN HRD HBZ HAP hpos hbk HML
        by_cases hk0 : k0 = (m : Int) - 4
        · have hq : (k0 != (m : Int) - 4) = false := by simp [hk0]
          subst hk0
          have hbd : Below wr.heap.size wr wr.drew := below_drew1 wr
          have HBD := Lib.hid hbd
          have hts : RdN wr (some ⟨lb, lo + 4, none⟩) (m - 4) ts := rdn_drop4 HRDL.out
          have HTS := Lib.hid hts
          clear hbd hts
          have hoo : ∃ oo, (if lc = 4 then some (⟨lb, lo, none⟩ : Addr) else some ⟨lb, lo + 4, none⟩) = some ⟨lb, oo, none⟩ ∧ RdN wr (some ⟨lb, oo, none⟩) (m - 4) ts := by
            by_cases hl4 : lc = 4
            · refine ⟨lo, if_pos hl4, ?_⟩
              have e1 : m - 4 = 0 := by omega
              have e2 : ts = [] := List.eq_nil_of_length_eq_zero (by have := HTL.out; omega)
              rw [e1, e2]
              exact Rd.nil _ _ _ _
            · exact ⟨lo + 4, if_neg hl4, HTS.out⟩
          obtain ⟨oo, hoo, hts2⟩ := hoo
          go_wp2_with fail
          have HKA : Hid (∀ (W : World) (o : Obj), (W.cell? ⟨lb, lo, none⟩ = some (.int .i64 g0) ∧ W.cell? ⟨lb, lo + 1, none⟩ = some (.int .i64 a0) ∧ W.cell? ⟨lb, lo + 2, none⟩ = some (.int .i64 q0) ∧ Below wr.heap.size wr W) → ((W.alloc o).cell? ⟨lb, lo, none⟩ = some (.int .i64 g0) ∧ (W.alloc o).cell? ⟨lb, lo + 1, none⟩ = some (.int .i64 a0) ∧ (W.alloc o).cell? ⟨lb, lo + 2, none⟩ = some (.int .i64 q0) ∧ Below wr.heap.size wr (W.alloc o))) := fun W o h => by
            have hb := (Below.refl W.heap.size W).alloc (Nat.le_refl _) o
            exact ⟨below_cell hb (Nat.le_refl _) h.1, below_cell hb (Nat.le_refl _) h.2.1, below_cell hb (Nat.le_refl _) h.2.2.1, h.2.2.2.alloc h.2.2.2.size o⟩
          have HKO : Hid (∀ (W w' : World) (b : Nat), (W.cell? ⟨lb, lo, none⟩ = some (.int .i64 g0) ∧ W.cell? ⟨lb, lo + 1, none⟩ = some (.int .i64 a0) ∧ W.cell? ⟨lb, lo + 2, none⟩ = some (.int .i64 q0) ∧ Below wr.heap.size wr W) → Only (fun k => k = b) W w' → wr.heap.size ≤ b → (w'.cell? ⟨lb, lo, none⟩ = some (.int .i64 g0) ∧ w'.cell? ⟨lb, lo + 1, none⟩ = some (.int .i64 a0) ∧ w'.cell? ⟨lb, lo + 2, none⟩ = some (.int .i64 q0) ∧ Below wr.heap.size wr w')) := fun W w' b h ho hb =>
            ⟨ho.cell h.1 (fun e => by simp only at e; omega), ho.cell h.2.1 (fun e => by simp only at e; omega), ho.cell h.2.2.1 (fun e => by simp only at e; omega), h.2.2.2.trans (ho.below h.2.2.2.size fun i hi => by omega)⟩
          have hq4 : (wr.drew.alloc (.cells #[.int .i64 0, .int .i64 0, .int .i64 0, .slice none 0 0] 24)).heap[wr.heap.size]? = some (.cells #[.int .i64 0, .int .i64 0, .int .i64 0, .slice none 0 0] 24) := heap_alloc_new wr.drew _
          have HQ := Lib.hid hq4
          obtain ⟨q0', q1', q2', q3', qf'⟩ := box4 hq4
          have HL0 : Hid (wr.drew.cell? ⟨lb, lo, none⟩ = some (.int .i64 g0) ∧ wr.drew.cell? ⟨lb, lo + 1, none⟩ = some (.int .i64 a0) ∧ wr.drew.cell? ⟨lb, lo + 2, none⟩ = some (.int .i64 q0) ∧ Below wr.heap.size wr wr.drew) := ⟨l0, l1, l2, HBD.out⟩
          have HTS2 := Lib.hid hts2
          have hmn : m ≤ 1000000 := by omega
          clear hts2 z0 z1 z2 z3 zf hm4 lc1 lc2 l3 hge hm13 hw4 hi6 hmr hrc hn hcap hq hbx hq4
          go_region_held3 (fun w' => (w'.cell? ⟨lb, lo, none⟩ = some (.int .i64 g0) ∧ w'.cell? ⟨lb, lo + 1, none⟩ = some (.int .i64 a0) ∧ w'.cell? ⟨lb, lo + 2, none⟩ = some (.int .i64 q0) ∧ Below wr.heap.size wr w')) (first | exact HL0.out | exact HKA.out wr.drew _ HL0.out | exact HKO.out _ _ _ (HKA.out wr.drew _ HL0.out) (set4 HQ.out _ _ _ _).2 (Nat.le_refl _)) (first | fail)
          have hbox : (wr.alloc (.cells #[.int .i64 g0, .int .i64 a0, .int .i64 q0, .slice (some ⟨lb, oo, none⟩) (m - 4) (lc - 4)] 24)).drew.heap[wr.heap.size]? = some (.cells #[.int .i64 g0, .int .i64 a0, .int .i64 q0, .slice (some ⟨lb, oo, none⟩) (m - 4) (lc - 4)] 24) := heap_alloc_new wr _
          have hbl : Below wr.heap.size wr (wr.alloc (.cells #[.int .i64 g0, .int .i64 a0, .int .i64 q0, .slice (some ⟨lb, oo, none⟩) (m - 4) (lc - 4)] 24)).drew := ((Below.refl _ _).alloc (Nat.le_refl _) _).trans ((below_drew1 (wr.alloc (.cells #[.int .i64 g0, .int .i64 a0, .int .i64 q0, .slice (some ⟨lb, oo, none⟩) (m - 4) (lc - 4)] 24))).mono (by simp))
          have hlb2 := own_low HOW.out _ rfl
          have HLB2 : Hid (w.heap.size < lb) := Nat.lt_of_lt_of_le HWZ.out hlb2
          generalize (wr.alloc (.cells #[.int .i64 g0, .int .i64 a0, .int .i64 q0, .slice (some ⟨lb, oo, none⟩) (m - 4) (lc - 4)] 24)).drew = w4 at hbox hbl ⊢
          obtain ⟨y0, y1, y2, y3, _⟩ := box4 hbox
          have HBL := Lib.hid hbl
          have HOWN := Lib.hid (HTS2.out.below hbl)
          have hm9 : m - 4 ≤ 1000000000 := by omega
          have HRG := Lib.hid (rright_calls ⟨g0, a0, q0, ts⟩ (some ⟨lb, oo, none⟩) (m - 4) (lc - 4) w4 HOWN.out hm9)
          clear hbox hbl hlb2 HKA HKO l0 l1 l2 hoo HL0 q0' q1' q2' q3' qf' HQ HTS2
          go_wp2_with fail
          refine HRG.out.mono ?_
          rintro e w5 ⟨rfl, hb5⟩
          have x0 := below_cell hb5 (Nat.le_refl _) y0
          have x1 := below_cell hb5 (Nat.le_refl _) y1
          have x2 := below_cell hb5 (Nat.le_refl _) y2
          have x3 := below_cell hb5 (Nat.le_refl _) y3
          have HB5 := Lib.hid (HBL.out.trans (hb5.mono HBL.out.size))
          have HO5 := Lib.hid (HOWN.out.below hb5)
          have hlow : w.heap.size < wr.heap.size := Nat.lt_of_lt_of_le HWZ.out HB.out.size
          have hres : w5.heap[w.heap.size]? = some (.cells #[.int .i64 0, .int .i64 0, .int .i64 0, .slice none 0 0] 24) := (HB5.out.block _ hlow).trans HBK.out
          have HRES := Lib.hid hres
          obtain ⟨r0, r1, r2, r3, rf⟩ := box4 hres
          have HLOW := Lib.hid hlow
          have HBF5 := Lib.hid (HBF.out.trans (HB5.out.mono HBF.out.size))
          clear y0 y1 y2 y3 hb5 hres hlow HRG
          cases hr : rightS ⟨g0, a0, q0, ts⟩ with
          | false =>
            have HNO : Hid (decS xs = none) := by
              unfold Hid
              rw [HFIN.out]
              exact if_neg fun c => by rw [hr] at c; exact absurd c.2 (by simp)
            clear hr
            go_wp2_with fail
            obtain ⟨hs1, hs2⟩ := set4 HRES.out (.int .i64 0) (.int .i64 0) (.int .i64 0) (.slice none 0 0)
            obtain ⟨y0, y1, y2, y3, _⟩ := box4 hs1
            have hbf := HBF5.out.trans (hs2.below HBF5.out.size (fun i hi => Nat.le_of_eq hi.symm))
            refine bodyPost_ret (v := .tuple #[.agg #[.int .i64 0, .int .i64 0, .int .i64 0, .slice none 0 0], .bool false]) (by simp [results, Try.results12, go_sem, y0, y1, y2, y3]; try rfl) rfl ⟨hbf, .inl ⟨HNO.out, rfl⟩⟩
          | true =>
            have HYES : Hid (decS xs = some ⟨g0, a0, q0, ts⟩) := by
              unfold Hid
              rw [HFIN.out]
              exact if_pos ⟨by have := HTL.out; omega, hr⟩
            have HRT := Lib.hid (right_iff.1 hr)
            clear hr
            go_wp2_with fail
            obtain ⟨hs1, hs2⟩ := set4 HRES.out (.int .i64 g0) (.int .i64 a0) (.int .i64 q0) (.slice (some ⟨lb, oo, none⟩) (m - 4) (lc - 4))
            obtain ⟨y0, y1, y2, y3, _⟩ := box4 hs1
            have hbf := HBF5.out.trans (hs2.below HBF5.out.size (fun i hi => Nat.le_of_eq hi.symm))
            have hof := HO5.out.only hs2 (fun x hx he => by injection hx with hx; subst hx; have h8 := HLB2.out; have h9 := HLOW.out; have he' : lb = w.heap.size := he; omega)
            have hk50 : m - 4 ≤ 50 := by have := HRT.out.few; have := HTL.out; simp only at *; omega
            refine bodyPost_ret (v := .tuple #[.agg #[.int .i64 g0, .int .i64 a0, .int .i64 q0, .slice (some ⟨lb, oo, none⟩) (m - 4) (lc - 4)], .bool true]) (by simp [results, Try.results12, go_sem, y0, y1, y2, y3]; try rfl) rfl ⟨hbf, .inr ⟨⟨g0, a0, q0, ts⟩, some ⟨lb, oo, none⟩, m - 4, lc - 4, HYES.out, rfl, hof, (fun h => by cases h), hk50, fun x hx => by injection hx with hx; subst hx; exact Nat.le_of_lt HLB2.out⟩⟩
        · have hq : (k0 != (m : Int) - 4) = true := by simp [hk0]
          have HNO : Hid (decS xs = none) := by unfold Hid; rw [HFIN.out]; exact if_neg fun c => hk0 (by rw [c.1]; have := HTL.out; omega)
          go_wp2_with fail
          obtain ⟨hs1, hs2⟩ := set4 HBK.out (.int .i64 0) (.int .i64 0) (.int .i64 0) (.slice none 0 0)
          obtain ⟨y0, y1, y2, y3, _⟩ := box4 hs1
          have hbf := HBF.out.trans (hs2.below HBF.out.size (fun i hi => Nat.le_of_eq hi.symm))
          refine bodyPost_ret (v := .tuple #[.agg #[.int .i64 0, .int .i64 0, .int .i64 0, .slice none 0 0], .bool false]) (by simp [results, Try.results12, go_sem, y0, y1, y2, y3]; try rfl) rfl ⟨hbf, .inl ⟨HNO.out, rfl⟩⟩
end Go.Proofs.Ytideokbaenkijaa
namespace Go.Proofs.Ytideokbaenkijaa
open Go.RowKit

/-- A state of the reference lies in a box. -/
structure StAtR (w : World) (b : Nat) (s : StateD) (B : Option Addr) (k c : Nat) : Prop where
  is : w.heap[b]? = some (.cells #[.int .i64 s.gen, .int .i64 s.app, .int .i64 s.next, .slice B k c] 24)
set_option maxHeartbeats 4000000 in
set_option maxRecDepth 20000 in
theorem rreadm_calls (A : Option Addr) (n cap : Nat) (xs : List Int) (w : World) (hx : RdB w A n xs) (hb : Bytes xs) (hn : n ≤ 1000000) (hcap : n ≤ cap) (hcm : cap ≤ maxLen) :
    Calls Try.prog 14 #[.slice A n cap] w (ReadOut xs w) := by
  obtain ⟨hbx, cv⟩ := one_box w (zeroS.cells none 0 0) 24
  obtain ⟨W0, hW0⟩ : ∃ W0, W0 = w.alloc (.cells #[.int .i64 0, .int .i64 0, .int .i64 0, .slice none 0 0] 24) := ⟨_, rfl⟩
  have hbx : Below w.heap.size w W0 := by rw [hW0]; exact hbx
  have HAL := Lib.hid (rall_calls A n cap xs W0 (hx.below hbx) hb hn hcap hcm)
  have HBX := Lib.hid hbx
  have HBY := Lib.hid hb
  have HNL := Lib.hid hx.len
  have HZ0 : Hid (W0.heap[w.heap.size]? = some (.cells #[.int .i64 0, .int .i64 0, .int .i64 0, .slice none 0 0] 24)) := by unfold Hid; rw [hW0]; exact heap_alloc_new _ _
  have HWZ : Hid (w.heap.size < W0.heap.size) := by unfold Hid; rw [hW0]; simp
  clear hx hb hcm cv hbx
  go_enter Try.func14, Try.ntmps14
  go_wp2_with fail
  rw [← hW0]
  clear hW0
  refine HAL.out.mono ?_
  rintro e w1 ⟨hb1, rows, O, k, oc, rfl, hrd, hrows, hrok, hkn, hrcap⟩
  obtain ⟨hrl, hmem, hsml⟩ := all_rest xs.length xs (Nat.le_refl _)
  have hfby : ∀ r ∈ rows, Bytes r.xs := fun r hr x hx => HBY.out x (hmem r.xs (by rw [← hrows]; exact List.mem_map.2 ⟨r, hr, rfl⟩) x hx)
  have HSM : Hid (∀ r ∈ rows, r.xs.length ≤ 65536) := fun r hr => hsml r.xs (by rw [← hrows]; exact List.mem_map.2 ⟨r, hr, rfl⟩)
  clear hsml
  obtain ⟨fs, hfs⟩ : ∃ fs, fs = (allL xs).1 := ⟨_, rfl⟩
  obtain ⟨rl, hrl2⟩ : ∃ rl, rl = (allL xs).2.1.length := ⟨_, rfl⟩
  obtain ⟨wh, hwh⟩ : ∃ wh, wh = (allL xs).2.2 := ⟨_, rfl⟩
  rw [← hfs] at hrows
  rw [← hrl2] at hrl
  rw [← hrl2, ← hwh]
  have hrs : readS xs = if wh = 2 then none else (readGo true firstS fs).map fun s => (s, xs.length - rl) := by unfold readS; rw [hfs, hrl2, hwh]
  have HRS := Lib.hid hrs
  have HRD := Lib.hid hrd
  have HROWS := Lib.hid hrows
  have HROK := Lib.hid hrok
  have HCAP := Lib.hid hrcap
  have HFBY := Lib.hid hfby
  have HRL := Lib.hid hrl
  have HB1 := Lib.hid hb1
  have hz1 : w1.heap[w.heap.size]? = some (.cells #[.int .i64 0, .int .i64 0, .int .i64 0, .slice none 0 0] 24) := (hb1.block _ HWZ.out).trans HZ0.out
  have HZ1 := Lib.hid hz1
  have HBF1 := Lib.hid (HBX.out.trans (hb1.mono HBX.out.size))
  have hwz1 : w.heap.size < w1.heap.size := Nat.lt_of_lt_of_le HWZ.out hb1.size
  have hrn : wrap64 ((n : Int) - (rl : Int)) = (n : Int) - rl := by have := HNL.out; unfold wrap64; omega
  clear hrs hrd hrows hrok hrcap hfby hrl hmem hfs hrl2 hwh hb1 HAL
  by_cases h2 : wh = 2
  · subst h2
    obtain ⟨z0, z1, z2, z3, zf⟩ := box4 hz1
    have HNO : Hid (readS xs = none) := by unfold Hid; rw [HRS.out, if_pos rfl]
    clear hz1
    go_wp2_with fail
    obtain ⟨hs1, hs2⟩ := set4 HZ1.out (.int .i64 0) (.int .i64 0) (.int .i64 0) (.slice none 0 0)
    obtain ⟨y0, y1, y2, y3, _⟩ := box4 hs1
    have hbf := HBF1.out.trans (hs2.below HBF1.out.size (fun i hi => Nat.le_of_eq hi.symm))
    refine bodyPost_ret (v := .tuple #[.agg #[.int .i64 0, .int .i64 0, .int .i64 0, .slice none 0 0], .int .i64 0, .int .i64 20]) (by simp [results, Try.results14, go_sem, y0, y1, y2, y3]; try rfl) rfl ⟨hbf, .inl ⟨HNO.out, rfl⟩⟩
  · have hw2 : ((wh : Int) == 2) = false := by simp; omega
    have hw3 : ¬ ((wh : Int) = 2) := by omega
    clear hz1
    have HRS2 : Hid (readS xs = (readGo true firstS fs).map fun s => (s, xs.length - rl)) := by unfold Hid; rw [HRS.out, if_neg h2]
    have HFI := Lib.hid (rfirst_calls w1)
    go_wp2_with fail
    refine HFI.out.mono ?_
    rintro e w1b ⟨rfl, hb1b⟩
    have HRD1 := HRD
    have HROK1 := HROK
    have HZ11 := HZ1
    have HBF11 := HBF1
    clear HRD HROK HZ1 HBF1
    have HRD := Lib.hid (HRD1.out.below hb1b)
    have HROK : Hid (∀ r ∈ rows, BRowOk w1b r) := fun r hr => (HROK1.out r hr).below hb1b
    have HZ1 := Lib.hid ((hb1b.block _ hwz1).trans HZ11.out)
    have HBF1 := Lib.hid (HBF11.out.trans (hb1b.mono HBF11.out.size))
    have hwz1b : w.heap.size < w1b.heap.size := Nat.lt_of_lt_of_le hwz1 hb1b.size
    clear hb1b HFI HRD1 HROK1 HZ11 HBF11 HB1 hwz1
    have hlb : Below w1b.heap.size w1b (w1b.alloc (.cells #[.int .i64 firstS.gen, .int .i64 firstS.app, .int .i64 firstS.next, .slice none 0 0] 24)) := (Below.refl _ _).alloc (Nat.le_refl _) _
    obtain ⟨W1, hW1⟩ : ∃ W1, W1 = w1b.alloc (.cells #[.int .i64 firstS.gen, .int .i64 firstS.app, .int .i64 firstS.next, .slice none 0 0] 24) := ⟨_, rfl⟩
    have hL0 : W1.heap[w1b.heap.size]? = some (.cells #[.int .i64 firstS.gen, .int .i64 firstS.app, .int .i64 firstS.next, .slice none 0 0] 24) := by rw [hW1]; exact heap_alloc_new _ _
    rw [← hW1] at hlb
    have hsz1 : W1.heap.size = w1b.heap.size + 1 := by rw [hW1]; simp
    have HL0 := Lib.hid hL0
    have HLB := Lib.hid hlb
    have HSZ1 := Lib.hid hsz1
    clear hlb hL0 hsz1 HRS h2
    go_wp2_with fail
    rw [← hW1]
    clear hW1
    go_loopw [9] (fun iv wr => ∃ (j : Nat) (last : StateD) (B : Option Addr) (kk cc : Nat), j ≤ k ∧ iv = .int .i64 j ∧ Hid (Only (fun x => x = w1b.heap.size) W1 wr) ∧ Hid (StAtR wr w1b.heap.size last B kk cc) ∧ Hid (RdN wr B kk last.tabs) ∧ Hid (B = none → cc = 0) ∧ Hid (kk ≤ 50) ∧ Hid (∀ a, B = some a → a.block ≠ w1b.heap.size ∧ w.heap.size < a.block) ∧ Hid (-1099511627777 ≤ last.gen ∧ last.gen ≤ 1099511627776) ∧ Hid (readGo true firstS fs = readGo (decide (j = 0)) last (fs.drop j))) (fun iv _ => k - (intOf iv).toNat)
    case atStart => exact ⟨0, firstS, none, 0, 0, Nat.zero_le _, rfl, Only.refl _ _, ⟨HL0.out⟩, Rd.nil _ _ _ _, fun _ => rfl, Nat.zero_le _, (fun a h => nomatch h), (by unfold Hid firstS; simp), rfl⟩
    case round =>
      obtain ⟨j, last, B, kk, cc, hj, rfl, HON, HBX2, HRB, HBN, HKK, HBA, HGN, HGO⟩ := hrel
      by_cases hjk : j < k
      · have hms : k - (j + 1) < k - j := Nat.sub_lt_sub_left hjk (Nat.lt_succ_self j)
        have hrowsR : Rd 1 BRow.l wr O k rows := (HRD.out.below HLB.out).only HON.out fun a ha he => by
          obtain ⟨_, b, o, _, e, hb, _⟩ := HRD.out.get j hjk
          rw [e] at ha; injection ha with ha; subst ha
          have he' : b = w1b.heap.size := he
          omega
        obtain ⟨r, rb, ro, hr, rfl, _, hc0⟩ := hrowsR.get j hjk
        have r0 := hc0 0 _ rfl
        simp only [Nat.mul_one, Nat.add_zero] at r0
        have hrm := List.mem_of_getElem? hr
        have hrd : RdB wr r.A r.n r.xs := rdb_keep ((HROK.out r hrm).rd.below HLB.out) HON.out fun hne a ha he => by
          have := rdb_lt (HROK.out r hrm).rd hne a ha
          have he' : a.block = w1b.heap.size := he
          omega
        have hfj : fs[j]? = some r.xs := by rw [← HROWS.out, List.getElem?_map, hr]; rfl
        have hrl6 : r.n ≤ 1000000 := by have h5 := HSM.out r hrm; have h6 := (HROK.out r hrm).rd.len; omega
        have HDEC := Lib.hid (rdecm_calls r.A r.n r.cap r.xs wr hrd (HFBY.out r hrm) hrl6 (HCAP.out r hrm).1 (HCAP.out r hrm).2)
        have HFJ := Lib.hid hfj
        have HKEEP : Hid (∀ w3, Below wr.heap.size wr w3 → w3.heap[w.heap.size]? = some (.cells #[.int .i64 0, .int .i64 0, .int .i64 0, .slice none 0 0] 24) ∧ w3.heap[w1b.heap.size]? = some (.cells #[.int .i64 last.gen, .int .i64 last.app, .int .i64 last.next, .slice B kk cc] 24) ∧ Below w.heap.size w w3 ∧ w1b.heap.size < w3.heap.size) := fun w3 hb3 => by
          have s1 := HON.out.size
          have s2 := HSZ1.out
          have s3 := hb3.size
          refine ⟨?_, (hb3.block _ (by omega)).trans HBX2.out.is, ?_, by omega⟩
          · rw [hb3.block _ (by omega), HON.out.block _ (by omega) (by omega), HLB.out.block _ hwz1b]
            exact HZ1.out
          · have q1 := HBF1.out.trans (HLB.out.mono HBF1.out.size)
            have q2 := q1.trans (HON.out.below q1.size fun i hi => by omega)
            exact q2.trans (hb3.mono q2.size)
        clear hrowsR hc0 hr hrm hrd hfj hrl6
        go_wp2_with fail
        refine HDEC.out.mono ?_
        rintro e w3 ⟨hb3, ⟨hd, rfl⟩ | ⟨s, B3, k3, c3, hd, rfl, hrd3, hn3, hk3, hfr3⟩⟩
        · have hgo : readGo true firstS fs = none := by
            rw [HGO.out, List.drop_eq_getElem_cons (List.getElem?_eq_some_iff.1 HFJ.out).1, (List.getElem?_eq_some_iff.1 HFJ.out).2, readGo, hd]
          have HNO : Hid (readS xs = none) := by unfold Hid; rw [HRS2.out, hgo]; rfl
          obtain ⟨hz3, hl3, hbf3, hlt3⟩ := HKEEP.out w3 hb3
          have hba : Below w3.heap.size w3 (w3.alloc (.cells #[.int .i64 zeroS.gen, .int .i64 zeroS.app, .int .i64 zeroS.next, .slice none 0 0] 24)) := (Below.refl _ _).alloc (Nat.le_refl _) _
          have hz4 := (hba.block w.heap.size (by omega)).trans hz3
          have HZ4 := Lib.hid hz4
          obtain ⟨z0, z1, z2, z3, zf⟩ := box4 hz4
          have HBF4 : Hid (Below w.heap.size w (w3.alloc (.cells #[.int .i64 zeroS.gen, .int .i64 zeroS.app, .int .i64 zeroS.next, .slice none 0 0] 24))) := hbf3.alloc hbf3.size _
          clear hb3 hd hz3 hl3 hbf3 hba hz4 hgo HDEC
          go_wp2_with fail
          obtain ⟨hs1, hs2⟩ := set4 HZ4.out (.int .i64 0) (.int .i64 0) (.int .i64 0) (.slice none 0 0)
          obtain ⟨y0, y1, y2, y3, _⟩ := box4 hs1
          have hbf := HBF4.out.trans (hs2.below HBF4.out.size (fun i hi => Nat.le_of_eq hi.symm))
          refine bodyPost_ret (v := .tuple #[.agg #[.int .i64 0, .int .i64 0, .int .i64 0, .slice none 0 0], .int .i64 0, .int .i64 20]) (by simp [results, Try.results14, go_sem, y0, y1, y2, y3]; try rfl) rfl ⟨hbf, .inl ⟨HNO.out, rfl⟩⟩
        · obtain ⟨hz3, hl3, hbf3, hlt3⟩ := HKEEP.out w3 hb3
          have hba : Below w3.heap.size w3 (w3.alloc (.cells #[.int .i64 s.gen, .int .i64 s.app, .int .i64 s.next, .slice B3 k3 c3] 24)) := (Below.refl _ _).alloc (Nat.le_refl _) _
          have hz4 := (hba.block w.heap.size (by omega)).trans hz3
          have hl4 := (hba.block w1b.heap.size hlt3).trans hl3
          have HZ4 := Lib.hid hz4
          have HL4 := Lib.hid hl4
          obtain ⟨z0, z1, z2, z3, zf⟩ := box4 hz4
          obtain ⟨l0, l1, l2, l3, lf⟩ := box4 hl4
          obtain ⟨m0, m1, m2, m3, mf⟩ := box4 hl3
          have hs4 := heap_alloc_new w3 (.cells #[.int .i64 s.gen, .int .i64 s.app, .int .i64 s.next, .slice B3 k3 c3] 24)
          obtain ⟨s0, s1, s2, s3, sf⟩ := box4 hs4
          have HBF4 : Hid (Below w.heap.size w (w3.alloc (.cells #[.int .i64 s.gen, .int .i64 s.app, .int .i64 s.next, .slice B3 k3 c3] 24))) := hbf3.alloc hbf3.size _
          have hsg := decS_gen hd
          have hwg : wrap64 (last.gen + 1) = last.gen + 1 := by have := HGN.out; unfold wrap64; omega
          by_cases hbad : 0 < j ∧ s.gen ≠ last.gen + 1
          · have hj0 : (j : Int) > 0 := by omega
            have hq : (s.gen != last.gen + 1) = true := by simpa using hbad.2
            have HNO : Hid (readS xs = none) := by
              unfold Hid
              rw [HRS2.out, HGO.out, List.drop_eq_getElem_cons (List.getElem?_eq_some_iff.1 HFJ.out).1, (List.getElem?_eq_some_iff.1 HFJ.out).2, readGo, hd]
              simp only
              rw [if_pos ⟨decide_eq_false (by omega), hbad.2⟩]
              rfl
            clear hb3 hd hz3 hl3 hbf3 hba hz4 hl4 hs4 hbad hsg hrd3 hn3 hk3 hfr3 HDEC
            go_wp2
            obtain ⟨hs1, hs2⟩ := set4 HZ4.out (.int .i64 0) (.int .i64 0) (.int .i64 0) (.slice none 0 0)
            obtain ⟨y0, y1, y2, y3, _⟩ := box4 hs1
            have hbf := HBF4.out.trans (hs2.below HBF4.out.size (fun i hi => Nat.le_of_eq hi.symm))
            refine bodyPost_ret (v := .tuple #[.agg #[.int .i64 0, .int .i64 0, .int .i64 0, .slice none 0 0], .int .i64 0, .int .i64 20]) (by simp [results, Try.results14, go_sem, y0, y1, y2, y3]; try rfl) rfl ⟨hbf, .inl ⟨HNO.out, rfl⟩⟩
          · have HGO2 : Hid (readGo true firstS fs = readGo (decide (j + 1 = 0)) s (fs.drop (j + 1))) := by
              unfold Hid
              rw [HGO.out, List.drop_eq_getElem_cons (List.getElem?_eq_some_iff.1 HFJ.out).1, (List.getElem?_eq_some_iff.1 HFJ.out).2, readGo, hd]
              simp only
              rw [if_neg fun c => hbad ⟨by have := of_decide_eq_false c.1; omega, c.2⟩]
              rfl
            have hrs := right_iff.1 hsg
            have HGN2 : Hid (-1099511627777 ≤ s.gen ∧ s.gen ≤ 1099511627776) := ⟨by have := hrs.g0; omega, hrs.g1⟩
            have honly := set4 hl3 (.int .i64 s.gen) (.int .i64 s.app) (.int .i64 s.next) (.slice B3 k3 c3)
            obtain ⟨W5, hW5⟩ : ∃ W5, W5 = ((((w3.setCell ⟨w1b.heap.size, 0, none⟩ (.int .i64 s.gen)).setCell ⟨w1b.heap.size, 1, none⟩ (.int .i64 s.app)).setCell ⟨w1b.heap.size, 2, none⟩ (.int .i64 s.next)).setCell ⟨w1b.heap.size, 3, none⟩ (.slice B3 k3 c3)) := ⟨_, rfl⟩
            rw [← hW5] at honly
            have hbb : Below W5.heap.size W5 (W5.alloc (.cells #[.int .i64 s.gen, .int .i64 s.app, .int .i64 s.next, .slice B3 k3 c3] 24)) := (Below.refl _ _).alloc (Nat.le_refl _) _
            have hl5 : w1b.heap.size < W5.heap.size := Nat.lt_of_lt_of_le hlt3 honly.2.size
            have hlw : w1b.heap.size < wr.heap.size := by have := HON.out.size; have := HSZ1.out; omega
            have HON2 := Lib.hid (HON.out.trans ((hb3.only _).trans (honly.2.trans (hbb.only _))))
            have HBX3 := Lib.hid (StAtR.mk (s := s) (B := B3) (k := k3) (c := c3) ((hbb.block _ hl5).trans honly.1))
            have HRB3 := Lib.hid ((hrd3.only honly.2 fun a ha he => by have h8 := hfr3 a ha; have he' : a.block = w1b.heap.size := he; omega).below hbb)
            rw [hW5] at HON2 HBX3 HRB3
            clear hW5 hbb hl5
            have HBA3 : Hid (∀ a, B3 = some a → a.block ≠ w1b.heap.size ∧ w.heap.size < a.block) := fun a ha => by have h8 := hfr3 a ha; exact ⟨by omega, by omega⟩
            have HN3 := Lib.hid hn3
            have HK3 := Lib.hid hk3
            have hrj : wrap64 ((j : Int) + 1) = ((j + 1 : Nat) : Int) := by unfold wrap64; omega
            clear hb3 hd hz3 hl3 hbf3 hba hz4 hl4 hs4 hsg hrs hrd3 hn3 hk3 hfr3 HDEC honly hlw
            rcases Nat.eq_zero_or_pos j with h0 | h0
            · subst h0
              have hj0 : ¬ ((0 : Nat) : Int) > 0 := by omega
              clear z0 z1 z2 z3 zf l0 l1 l2 l3 lf HZ4 HL4 HBF4 HKEEP
              go_wp2_with fail
              go_roundw
              case rel => exact ⟨1, s, B3, k3, c3, by omega, by go_num, HON2.out, HBX3.out, HRB3.out, HN3.out, HK3.out, HBA3.out, HGN2.out, HGO2.out⟩
              case measure => simp [intOf]; omega
            · have hj0 : (j : Int) > 0 := Int.natCast_pos.2 h0
              have hgg : s.gen = last.gen + 1 := Classical.byContradiction fun h => hbad ⟨h0, h⟩
              obtain ⟨g1, hg1⟩ : ∃ g1, g1 = last.gen + 1 := ⟨_, rfl⟩
              have hwg2 : wrap64 (last.gen + 1) = g1 := hwg.trans hg1.symm
              have hq : (s.gen != g1) = false := by simp [hgg, hg1]
              clear hgg hg1 hbad hrn hrj hwg z0 z1 z2 z3 zf l0 l1 l2 l3 lf HZ4 HL4 HBF4 HKEEP
              go_wp2_with fail
              go_roundw
              case rel => exact ⟨j + 1, s, B3, k3, c3, hjk, by go_num, HON2.out, HBX3.out, HRB3.out, HN3.out, HK3.out, HBA3.out, HGN2.out, HGO2.out⟩
              case measure =>
                simp [intOf]
                exact hms
      · have hfl : fs.drop j = [] := List.drop_eq_nil_of_le (by rw [← HROWS.out, List.length_map, ← HRD.out.len]; omega)
        have HYES : Hid (readS xs = some (last, xs.length - rl)) := by unfold Hid; rw [HRS2.out, HGO.out, hfl, readGo]; rfl
        have hz4 : wr.heap[w.heap.size]? = some (.cells #[.int .i64 0, .int .i64 0, .int .i64 0, .slice none 0 0] 24) := by
          rw [HON.out.block _ (by have := HSZ1.out; omega) (by omega), HLB.out.block _ hwz1b]
          exact HZ1.out
        have HZ4 := Lib.hid hz4
        obtain ⟨z0, z1, z2, z3, zf⟩ := box4 hz4
        obtain ⟨l0, l1, l2, l3, lf⟩ := box4 HBX2.out.is
        have HBF4 : Hid (Below w.heap.size w wr) := by
          have q1 := HBF1.out.trans (HLB.out.mono HBF1.out.size)
          exact q1.trans (HON.out.below q1.size fun i hi => by omega)
        have HML : Hid (∃ m : Nat, m = xs.length - rl ∧ (n : Int) - rl = (m : Int) ∧ m ≤ xs.length) := ⟨xs.length - rl, rfl, by have := HRL.out; have := HNL.out; omega, by omega⟩
        obtain ⟨m, hm1, hm2, hm3⟩ := HML.out
        clear hz4 hfl
        go_wp2
        obtain ⟨hs1, hs2⟩ := set4 HZ4.out (.int .i64 last.gen) (.int .i64 last.app) (.int .i64 last.next) (.slice B kk cc)
        obtain ⟨y0, y1, y2, y3, _⟩ := box4 hs1
        have hbf := HBF4.out.trans (hs2.below HBF4.out.size (fun i hi => Nat.le_of_eq hi.symm))
        have hrf := HRB.out.only hs2 fun a ha he => by have h8 := (HBA.out a ha).2; have he' : a.block = w.heap.size := he; omega
        rw [hm2]
        refine bodyPost_ret (v := .tuple #[.agg #[.int .i64 last.gen, .int .i64 last.app, .int .i64 last.next, .slice B kk cc], .int .i64 m, .int .i64 0]) (by simp [results, Try.results14, go_sem, y0, y1, y2, y3]; try rfl) rfl ⟨hbf, .inr ⟨last, m, B, kk, cc, by rw [HYES.out, hm1], hm3, rfl, hrf, HBN.out, HKK.out, fun a ha => (HBA.out a ha).2⟩⟩
end Go.Proofs.Ytideokbaenkijaa
