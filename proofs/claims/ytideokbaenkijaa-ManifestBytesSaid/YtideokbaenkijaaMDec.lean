/-
  manifest.Decode.
-/
import Derived.Test.YtideokbaenkijaaMSame
import Derived.Deep.RegionHeld3
namespace Go.Proofs.Ytideokbaenkijaa
open Go.RowKit

/-- append(list, n), n just laid into a block of its own. -/
theorem app_int {w : World} {ops : Array Oper} {rest : List Oper} {o : Oper} {a : Act} {Q : Exit → Act → World → Prop} (hgd : o.guard = none) (s x : Operand)
    (ho : o.op = .call { callee := .builtin .append, args := #[s, x], argTypes := #[22, 22] }) (v : Int)
    {base n cap nb : Nat} {A : Option Addr} {xs : List Int} (hs : a.eval s = .slice A n cap) (hown : OwnN w base A n cap xs) (hnb : nb = w.heap.size) (hx : a.eval x = .slice (some ⟨nb, 0, none⟩) 1 1) (hn : n ≤ 10000000) (hbase : base ≤ w.heap.size)
    (h : ∀ g cap' w', OwnN w' base (some ⟨g, 0, none⟩) (n + 1) cap' (xs ++ [v]) → Only (fun k => A = some ⟨k, 0, none⟩) w w' → (A = some ⟨g, 0, none⟩ ∨ w.heap.size < g) → g < w'.heap.size →
      wpList Try.prog ops Q rest (a.put o.dst (.slice (some ⟨g, 0, none⟩) (n + 1) cap')) w') : wpList Try.prog ops Q (o :: rest) a (w.alloc (.cells #[.int .i64 v] 3)) := by
  obtain ⟨i0, hi, hz0, hz1, hz2⟩ := info_parts infoInt
  subst hnb
  have hb : Below w.heap.size w (w.alloc (.cells #[.int .i64 v] 3)) := (Below.refl _ _).alloc (Nat.le_refl _) _
  refine append_one hgd s x 22 ho i0 _ 8 Try.underlying22 hi hz0 hz1 hz2 rfl (by omega) encN_len (c := v) hs (hown.below hb) hx (fun j u hj => ?_) (encN_one v) (by omega) (by unfold maxLen; omega) (Nat.le_trans hbase hb.size) ?_
  · rw [World.cell?_alloc_new]; simpa [encN] using hj
  · intro g cap' w' h1 h2 h3 h4
    refine h g cap' w' h1 ((hb.only _).trans h2) (h3.imp id fun h3 => ?_) h4
    simp at h3; omega
/-- Decode's answer. -/
def DecMOut (xs : List Int) (w : World) (e : Ending) (w' : World) : Prop := Below w.heap.size w w' ∧ ((decS xs = none ∧ e = .returned (.tuple #[zeroS.v none 0 0, .bool false])) ∨
  ∃ (s : StateD) (B : Option Addr) (k c : Nat), decS xs = some s ∧ e = .returned (.tuple #[s.v B k c, .bool true]) ∧ RdN w' B k s.tabs ∧ (B = none → c = 0) ∧ k ≤ 50 ∧ ∀ a, B = some a → w.heap.size ≤ a.block)
theorem decN_step {xs zs r ns : List Int} {v : Nat} (h : decN xs = (decN zs).map fun l => ns ++ l) (hz : zs ≠ []) (ht : takeV 0 0 zs = some (v, r)) : decN xs = (decN r).map fun l => (ns ++ [(v : Int)]) ++ l := by
  rw [h, decN_some hz ht, Option.map_map]
  congr 1
  funext l
  simp

theorem own_from {w : World} {base low k c : Nat} {B : Option Addr} {xs : List Int} (h : OwnN w base B k c xs) (hl : low ≤ base) : ∀ a, B = some a → low ≤ a.block := fun a ha => by
  rcases h.shape with ⟨e, _⟩ | ⟨x, e, h2, _⟩
  · rw [e] at ha; cases ha
  · rw [e] at ha; injection ha with ha; subst ha; exact Nat.le_trans hl h2
theorem box4 {w : World} {b : Nat} {v0 v1 v2 v3 : Value} {T : TypeId} (h : w.heap[b]? = some (.cells #[v0, v1, v2, v3] T)) : w.cell? ⟨b, 0, none⟩ = some v0 ∧ w.cell? ⟨b, 1, none⟩ = some v1 ∧ w.cell? ⟨b, 2, none⟩ = some v2 ∧ w.cell? ⟨b, 3, none⟩ = some v3 ∧ ∀ o, w.frozen? ⟨b, o, none⟩ = false := by
  refine ⟨by simp [World.cell?, h], by simp [World.cell?, h], by simp [World.cell?, h], by simp [World.cell?, h], fun o => by simp [World.frozen?, h]⟩
theorem only_setCell1 (w : World) (p : Addr) (v : Value) : Only (fun k => k = p.block) w (w.setCell p v) :=
  ⟨rfl, rfl, rfl, by simp, fun k _ hk => heap_setCell_other w p k v hk⟩
/-- A state's box, written anew. -/
theorem set4 {w : World} {b : Nat} {v0 v1 v2 v3 : Value} {T : TypeId} (h : w.heap[b]? = some (.cells #[v0, v1, v2, v3] T)) (u0 u1 u2 u3 : Value) :
    ((((w.setCell ⟨b, 0, none⟩ u0).setCell ⟨b, 1, none⟩ u1).setCell ⟨b, 2, none⟩ u2).setCell ⟨b, 3, none⟩ u3).heap[b]? = some (.cells #[u0, u1, u2, u3] T) ∧ Only (fun k => k = b) w ((((w.setCell ⟨b, 0, none⟩ u0).setCell ⟨b, 1, none⟩ u1).setCell ⟨b, 2, none⟩ u2).setCell ⟨b, 3, none⟩ u3) := by
  refine ⟨?_, (((only_setCell1 w ⟨b, 0, none⟩ u0).trans (only_setCell1 _ ⟨b, 1, none⟩ u1)).trans (only_setCell1 _ ⟨b, 2, none⟩ u2)).trans (only_setCell1 _ ⟨b, 3, none⟩ u3)⟩
  have hb : b < w.heap.size := (Array.getElem?_eq_some_iff.1 h).1
  simp [World.setCell, Array.getElem?_modify, h]
theorem rdn_drop4 {w : World} {b off m : Nat} {g a q k : Int} {ts : List Int} (h : RdN w (some ⟨b, off, none⟩) m (g :: a :: q :: k :: ts)) : RdN w (some ⟨b, off + 4, none⟩) (m - 4) ts :=
  ⟨by have := h.len; simp at this; omega, fun i c hc => by
    obtain ⟨b', o', e, hb, hj⟩ := h.at_ (i + 4) c (by simpa using hc)
    injection e with e
    injection e with e1 e2 _
    subst e1 e2
    exact ⟨b, off + 4, rfl, hb, fun j v hv => by have := hj j v hv; rwa [show off + (i + 4) * 1 + j = off + 4 + i * 1 + j by omega] at this⟩⟩
set_option maxHeartbeats 4000000 in
set_option maxRecDepth 20000 in
theorem decm_calls (A : Option Addr) (n cap : Nat) (xs : List Int) (w : World) (hx : RdB w A n xs) (hb : Bytes xs) (hn : n ≤ 1000000) (hcap : n ≤ cap) (hcm : cap ≤ maxLen) :
    Calls Try.prog 11 #[.slice A n cap] w (DecMOut xs w) := by
  obtain ⟨hbx, cv⟩ := one_box w (zeroS.cells none 0 0) 29
  obtain ⟨W0, hW0⟩ : ∃ W0, W0 = w.alloc (.cells #[.int .i64 0, .int .i64 0, .int .i64 0, .slice none 0 0] 29) := ⟨_, rfl⟩
  have hbx : Below w.heap.size w W0 := by rw [hW0]; exact hbx
  have HX := Lib.hid (hx.below hbx)
  have HBX := Lib.hid hbx
  have HBY := Lib.hid hb
  have HCM := Lib.hid hcm
  have HZ0 : Hid (W0.heap[w.heap.size]? = some (.cells #[.int .i64 0, .int .i64 0, .int .i64 0, .slice none 0 0] 29)) := by unfold Hid; rw [hW0]; exact heap_alloc_new _ _
  have HWZ : Hid (w.heap.size < W0.heap.size) := by unfold Hid; rw [hW0]; simp
  clear hx hb hcm cv hbx
  go_enter Try.func11, Try.ntmps11
  go_wp2_with fail
  rw [← hW0]
  clear hW0
  go_loopw [0, 4] (fun rv lv wr => ∃ (rl rc m lc : Nat) (R L : Option Addr) (zs ns : List Int), rv = .slice R rl rc ∧ lv = .slice L m lc ∧ m + rl ≤ n ∧ rl ≤ rc ∧ Hid (rc ≤ maxLen) ∧ Hid (RdB wr R rl zs) ∧ Hid (Bytes zs) ∧ Hid (OwnN wr W0.heap.size L m lc ns) ∧ Hid (∀ x, L = some ⟨x, 0, none⟩ → ∀ a, R = some a → a.block ≠ x) ∧ Hid (decN xs = (decN zs).map fun l => ns ++ l) ∧ Hid (Below W0.heap.size W0 wr)) (fun rv _ _ => match rv with | .slice _ l _ => l | _ => 0)
  case atStart => exact ⟨n, cap, 0, 0, A, none, xs, [], rfl, rfl, by omega, hcap, HCM.out, HX.out, HBY.out, Own.nil _ _ _ _ _, (fun x hx => nomatch hx), by unfold Hid; simp, Below.refl _ _⟩
  case round =>
    obtain ⟨rl, rc, m, lc, R, L, zs, ns, rfl, rfl, hmr, hrc, HRC, HRD, HBZ, HOW, HAP, HDN, HB⟩ := hrel
    by_cases hpos : 0 < rl
    · obtain ⟨b, off, rfl, hbl⟩ := rdb_some HRD.out hpos
      have hpos' : (rl : Int) > 0 := by omega
      have HTK := Lib.hid (take_calls b off rl rc zs wr HRD.out HBZ.out (by omega) hrc HRC.out)
      have hzne : zs ≠ [] := fun h => by have := HRD.out.len; rw [h] at this; simp at this; omega
      have HZN := Lib.hid hzne
      have HZL := Lib.hid HRD.out.len
      clear hzne hbl
      go_wp2_with fail
      refine HTK.out.mono ?_
      rintro e w2 ⟨hb2, ⟨ht, rfl⟩ | ⟨v, ys, g, c2, ht, hv, rfl, hown⟩⟩
      · have HFIN : Hid (decS xs = none) := by unfold Hid decS; rw [HDN.out, decN_none HZN.out ht]; rfl
        have HB2 := Lib.hid (HB.out.trans (hb2.mono HB.out.size))
        have hbk : w2.heap[w.heap.size]? = some (.cells #[.int .i64 0, .int .i64 0, .int .i64 0, .slice none 0 0] 29) := (HB2.out.block _ HWZ.out).trans HZ0.out
        obtain ⟨z0, z1, z2, z3, zf⟩ := box4 hbk
        have HBF := Lib.hid (HBX.out.trans (HB2.out.mono HBX.out.size))
        have HBK := Lib.hid hbk
        clear hb2 ht HTK hbk
        go_wp2_with fail
        obtain ⟨hs1, hs2⟩ := set4 HBK.out (.int .i64 0) (.int .i64 0) (.int .i64 0) (.slice none 0 0)
        obtain ⟨y0, y1, y2, y3, _⟩ := box4 hs1
        have hbf := HBF.out.trans (hs2.below HBF.out.size (fun i hi => Nat.le_of_eq hi.symm))
        refine bodyPost_ret (v := .tuple #[.agg #[.int .i64 0, .int .i64 0, .int .i64 0, .slice none 0 0], .bool false]) (by simp [results, Try.results11, go_sem, y0, y1, y2, y3]; try rfl) rfl ⟨hbf, .inl ⟨HFIN.out, rfl⟩⟩
      · have HFIN := Lib.hid (decN_step HDN.out HZN.out ht)
        have HB2 := Lib.hid (HB.out.trans (hb2.mono HB.out.size))
        have HOW2 := Lib.hid (HOW.out.below hb2)
        have hOlt : Hid (∀ x, L = some ⟨x, 0, none⟩ → x < wr.heap.size) := fun x hx => by
          rcases HOW.out.shape with ⟨h, _⟩ | ⟨y, h, _, h3⟩
          · rw [h] at hx; cases hx
          · rw [h] at hx; injection hx with hx; injection hx with hx; omega
        obtain ⟨hless, pp, hpp⟩ := take_less zs 0 0 ht
        have hyl : m + 1 + ys.length ≤ n := by have := HZL.out; omega
        have hless2 : ys.length < rl := by have := HZL.out; omega
        obtain ⟨hg1, hg2⟩ := own_cap hown
        have HBR : Hid (Bytes ys) := fun q hq => HBZ.out q (by rw [← hpp]; exact List.mem_append_right _ hq)
        have HGC := Lib.hid hg2
        have HGR := Lib.hid (hown.rd encB_len)
        have HG : Hid (wr.heap.size ≤ g ∧ g < w2.heap.size) := by
          rcases hown.shape with ⟨h, _⟩ | ⟨y, h, h2, h3⟩
          · cases h
          · injection h with h; injection h with h; subst h; exact ⟨h2, h3⟩
        have hbase := Lib.hid HB2.out.size
        have hm1 : m ≤ 1000000 := by omega
        obtain ⟨yl, hyl2⟩ : ∃ yl, yl = ys.length := ⟨_, rfl⟩
        rw [← hyl2] at hyl hless2 hg1 HGR ⊢
        clear hless hpp hg2 hown hb2 HTK HDN HRD HOW ht hyl2
        go_wp2_with (at_builtin; refine app_int rfl (.tmp 21) (.tmp 23) rfl v rfl HOW2.out rfl rfl (by omega) hbase.out ?_; intro g3 ac' w4 h1 h2 h3 h4)
        have HR4 : Hid (RdB w4 (some ⟨g, 0, none⟩) yl ys) := HGR.out.only h2 (fun a ha he => by injection ha with ha; subst ha; exact absurd (hOlt.out _ he) (Nat.not_lt.2 HG.out.1))
        have HB4 := Lib.hid (HB2.out.trans (h2.below hbase.out (own_above HOW2.out)))
        refine ⟨⟨yl, c2, m + 1, ac', some ⟨g, 0, none⟩, some ⟨g3, 0, none⟩, ys, ns ++ [(v : Int)], rfl, rfl, by omega, by omega, HGC.out, HR4.out, HBR.out, h1, ?_, HFIN.out, HB4.out⟩, by simp only; omega⟩
        intro y hy a ha
        injection hy with hy; injection hy with hy
        injection ha with ha
        subst hy ha
        have := HG.out
        rcases h3 with h3 | h3
        · have := hOlt.out _ h3; show g ≠ _; omega
        · show g ≠ _; omega
    · have hz : zs = [] := List.eq_nil_of_length_eq_zero (by have := HRD.out.len; omega)
      have hrl0 : rl = 0 := by omega
      subst hz hrl0
      have HFIN : Hid (decS xs = ofN ns) := by unfold Hid decS; rw [HDN.out, decN_nil]; show ofN (ns ++ []) = _; rw [List.append_nil]
      have HML := Lib.hid HOW.out.1
      have hbk : wr.heap[w.heap.size]? = some (.cells #[.int .i64 0, .int .i64 0, .int .i64 0, .slice none 0 0] 29) := (HB.out.block _ HWZ.out).trans HZ0.out
      obtain ⟨z0, z1, z2, z3, zf⟩ := box4 hbk
      have HBF := Lib.hid (HBX.out.trans (HB.out.mono HBX.out.size))
      by_cases hm4 : m < 4
      · have HNO : Hid (decS xs = none) := by
          unfold Hid
          rw [HFIN.out]
          have := HML.out
          match ns with
          | [] => rfl
          | [_] => rfl
          | [_, _] => rfl
          | [_, _, _] => rfl
          | _ :: _ :: _ :: _ :: _ => simp at this; omega
        have hlt : (m : Int) < 4 := by omega
        have HBK := Lib.hid hbk
        clear HDN HRD HBZ HAP hpos hbk
        go_wp2_with fail
        obtain ⟨hs1, hs2⟩ := set4 HBK.out (.int .i64 0) (.int .i64 0) (.int .i64 0) (.slice none 0 0)
        obtain ⟨y0, y1, y2, y3, _⟩ := box4 hs1
        have hbf := HBF.out.trans (hs2.below HBF.out.size (fun i hi => Nat.le_of_eq hi.symm))
        refine bodyPost_ret (v := .tuple #[.agg #[.int .i64 0, .int .i64 0, .int .i64 0, .slice none 0 0], .bool false]) (by simp [results, Try.results11, go_sem, y0, y1, y2, y3]; try rfl) rfl ⟨hbf, .inl ⟨HNO.out, rfl⟩⟩
      · obtain ⟨g0, a0, q0, k0, ts, rfl⟩ : ∃ g a q k ts, ns = g :: a :: q :: k :: ts := by
          have := HML.out
          match ns with
          | [] => simp at this; omega
          | [_] => simp at this; omega
          | [_, _] => simp at this; omega
          | [_, _, _] => simp at this; omega
          | g :: a :: q :: k :: ts => exact ⟨g, a, q, k, ts, rfl⟩
        have HTL : Hid (m = ts.length + 4) := by have := HML.out; simpa [Hid] using this
        have hrd := HOW.out.rd encN_len
        have HRDL := Lib.hid hrd
        obtain ⟨lc1, lc2⟩ := own_cap HOW.out
        obtain ⟨x0, lb, lo, hx0, rfl, hlb, hc0⟩ := hrd.get 0 (by omega)
        obtain ⟨x1, _, _, hx1, e1, _, hc1⟩ := hrd.get 1 (by omega)
        cases e1
        obtain ⟨x2, _, _, hx2, e2, _, hc2⟩ := hrd.get 2 (by omega)
        cases e2
        obtain ⟨x3, _, _, hx3, e3, _, hc3⟩ := hrd.get 3 (by omega)
        cases e3
        cases hx0; cases hx1; cases hx2; cases hx3
        have l0 := hc0 0 _ rfl
        have l1 := hc1 0 _ rfl
        have l2 := hc2 0 _ rfl
        have l3 := hc3 0 _ rfl
        simp only [Nat.mul_one, Nat.add_zero] at l0 l1 l2 l3
        have hge : ¬ (m : Int) < 4 := by omega
        have hm1 : (0 : Nat) < m ∧ 1 < m ∧ 2 < m ∧ 3 < m := by omega
        obtain ⟨hm10, hm11, hm12, hm13⟩ := hm1
        have hi1 : (1 : Int) < (m : Int) := by omega
        have hi2 : (2 : Int) < (m : Int) := by omega
        have hi4 : (4 : Int) ≤ (m : Int) := by omega
        have hi5 : (4 : Int) ≤ (lc : Int) := by omega
        have hi6 : (m : Int) ≤ (lc : Int) := by omega
        have hi7 : m ≤ lc := lc1
        have hw4 : wrap64 ((m : Int) - 4) = (m : Int) - 4 := by unfold wrap64; omega
        have HBK := Lib.hid hbk
        clear hc0 hc1 hc2 hc3 hrd HDN HRD HBZ HAP hpos hbk HML
        by_cases hk0 : k0 = (m : Int) - 4
        · have hq : (k0 != (m : Int) - 4) = false := by simp [hk0]
          subst hk0
          have hbd : Below wr.heap.size wr wr.drew := below_drew1 wr
          have HBD := Lib.hid hbd
          have hts : RdN wr (some ⟨lb, lo + 4, none⟩) (m - 4) ts := rdn_drop4 HRDL.out
          have HTS := Lib.hid hts
          clear hbd hts
          have hoo : ∃ oo, (if lc = 4 then some (⟨lb, lo, none⟩ : Addr) else some ⟨lb, lo + 4, none⟩) = some ⟨lb, oo, none⟩ ∧ RdN wr (some ⟨lb, oo, none⟩) (m - 4) ts := by
            by_cases hl4 : lc = 4
            · refine ⟨lo, if_pos hl4, ?_⟩
              have e1 : m - 4 = 0 := by omega
              have e2 : ts = [] := List.eq_nil_of_length_eq_zero (by have := HTL.out; omega)
              rw [e1, e2]
              exact Rd.nil _ _ _ _
            · exact ⟨lo + 4, if_neg hl4, HTS.out⟩
          obtain ⟨oo, hoo, hts2⟩ := hoo
          have HCL : Hid (∀ W, Below wr.heap.size wr W → Calls Try.prog 32 #[.slice (some ⟨lb, oo, none⟩) (m - 4) (lc - 4)] W fun e w' => ∃ B mc, e = .returned (.slice B (m - 4) mc) ∧ OwnN w' W.heap.size B (m - 4) mc ts ∧ Below W.heap.size W w') := fun W hW => nclone_calls _ (m - 4) _ ts W (hts2.below hW) (by omega)
          have hlc4 : 4 ≤ lc := by omega
          have hm4' : 4 ≤ m := by omega
          go_wp2_with fail
          have KA : ∀ (W : World) (o : Obj), (W.cell? ⟨lb, lo, none⟩ = some (.int .i64 g0) ∧ W.cell? ⟨lb, lo + 1, none⟩ = some (.int .i64 a0) ∧ W.cell? ⟨lb, lo + 2, none⟩ = some (.int .i64 q0) ∧ Below wr.heap.size wr W) → ((W.alloc o).cell? ⟨lb, lo, none⟩ = some (.int .i64 g0) ∧ (W.alloc o).cell? ⟨lb, lo + 1, none⟩ = some (.int .i64 a0) ∧ (W.alloc o).cell? ⟨lb, lo + 2, none⟩ = some (.int .i64 q0) ∧ Below wr.heap.size wr (W.alloc o)) := fun W o h => by
            have hb := (Below.refl W.heap.size W).alloc (Nat.le_refl _) o
            exact ⟨below_cell hb (Nat.le_refl _) h.1, below_cell hb (Nat.le_refl _) h.2.1, below_cell hb (Nat.le_refl _) h.2.2.1, h.2.2.2.alloc h.2.2.2.size o⟩
          have KC : ∀ (W w' : World), (W.cell? ⟨lb, lo, none⟩ = some (.int .i64 g0) ∧ W.cell? ⟨lb, lo + 1, none⟩ = some (.int .i64 a0) ∧ W.cell? ⟨lb, lo + 2, none⟩ = some (.int .i64 q0) ∧ Below wr.heap.size wr W) → Below W.heap.size W w' → (w'.cell? ⟨lb, lo, none⟩ = some (.int .i64 g0) ∧ w'.cell? ⟨lb, lo + 1, none⟩ = some (.int .i64 a0) ∧ w'.cell? ⟨lb, lo + 2, none⟩ = some (.int .i64 q0) ∧ Below wr.heap.size wr w') := fun W w' h hb =>
            ⟨below_cell hb (Nat.le_refl _) h.1, below_cell hb (Nat.le_refl _) h.2.1, below_cell hb (Nat.le_refl _) h.2.2.1, h.2.2.2.trans (hb.mono h.2.2.2.size)⟩
          have KO : ∀ (W w' : World) (b : Nat), (W.cell? ⟨lb, lo, none⟩ = some (.int .i64 g0) ∧ W.cell? ⟨lb, lo + 1, none⟩ = some (.int .i64 a0) ∧ W.cell? ⟨lb, lo + 2, none⟩ = some (.int .i64 q0) ∧ Below wr.heap.size wr W) → Only (fun k => k = b) W w' → wr.heap.size ≤ b → (w'.cell? ⟨lb, lo, none⟩ = some (.int .i64 g0) ∧ w'.cell? ⟨lb, lo + 1, none⟩ = some (.int .i64 a0) ∧ w'.cell? ⟨lb, lo + 2, none⟩ = some (.int .i64 q0) ∧ Below wr.heap.size wr w') := fun W w' b h ho hb =>
            ⟨ho.cell h.1 (fun e => by simp only at e; omega), ho.cell h.2.1 (fun e => by simp only at e; omega), ho.cell h.2.2.1 (fun e => by simp only at e; omega), h.2.2.2.trans (ho.below h.2.2.2.size fun i hi => by omega)⟩
          have HKO := Lib.hid KO
          have HKA := Lib.hid KA
          have HKC := Lib.hid KC
          go_wp2_with fail
          have hmn : m ≤ 1000000 := by omega
          clear KA KC KO hts2 z0 z1 z2 z3 zf hm4 lc1 lc2 l3 hge hm13 hw4 hi6 hi7 hmr hrc hn hcap hq hbx
          go_region_held3 (fun w' => w'.cell? ⟨lb, lo, none⟩ = some (.int .i64 g0) ∧ w'.cell? ⟨lb, lo + 1, none⟩ = some (.int .i64 a0) ∧ w'.cell? ⟨lb, lo + 2, none⟩ = some (.int .i64 q0) ∧ Below wr.heap.size wr w') (first | exact ⟨l0, l1, l2, HBD.out⟩ | (with_reducible exact HS3.out) | (with_reducible exact HKA.out _ _ HS3.out) | (with_reducible exact HKO.out _ _ _ HS3.out (set4 HQ.out _ _ _ _).2 (Nat.le_refl _)) | exact HKA.out wr.drew _ ⟨l0, l1, l2, HBD.out⟩) (first | (go_at_call 32; refine (HCL.out _ (by have h : _ ∧ _ ∧ _ ∧ Below wr.heap.size wr _ := (by assumption); exact h.2.2.2)).mono ?_; rintro e w3 ⟨B, mc, rfl, ho3, hb3⟩; have HS3 : Hid (w3.cell? ⟨lb, lo, none⟩ = some (.int .i64 g0) ∧ w3.cell? ⟨lb, lo + 1, none⟩ = some (.int .i64 a0) ∧ w3.cell? ⟨lb, lo + 2, none⟩ = some (.int .i64 q0) ∧ Below wr.heap.size wr w3) := HKC.out _ _ (by assumption) hb3; have HO3 : Hid (OwnN w3 wr.heap.size B (m - 4) mc ts) := (by first | exact ho3.lower HBD.out.size | exact ho3.lower (HBD.out.alloc HBD.out.size _).size); first | (have hq : w3.heap[wr.heap.size]? = some (.cells #[.int .i64 0, .int .i64 0, .int .i64 0, .slice none 0 0] 29) := (hb3.block wr.heap.size (by simp)).trans (heap_alloc_new wr.drew _); have HQ := Lib.hid hq; obtain ⟨q0', q1', q2', q3', qf'⟩ := box4 hq; clear hq) | skip))
          all_goals
            first
              | (obtain ⟨hbox, honly⟩ := set4 HQ.out (.int .i64 g0) (.int .i64 a0) (.int .i64 q0) (.slice B (m - 4) mc)
                 have hbl := HS3.out.2.2.2.trans (honly.below HS3.out.2.2.2.size fun i hi => Nat.le_of_eq hi.symm)
                 have hown := HO3.out.only honly (fun x hx he => by have h8 := own_above ho3 x hx; have h9 : (wr.alloc (.cells #[.int .i64 0, .int .i64 0, .int .i64 0, .slice none 0 0] 29)).heap.size = wr.heap.size + 1 := (by simp); have h7 : wr.heap.size + 1 ≤ x := h9 ▸ h8; exact absurd he (by omega))
                 generalize ((((w3.setCell ⟨wr.heap.size, 0, none⟩ (.int .i64 g0)).setCell ⟨wr.heap.size, 1, none⟩ (.int .i64 a0)).setCell ⟨wr.heap.size, 2, none⟩ (.int .i64 q0)).setCell ⟨wr.heap.size, 3, none⟩ (.slice B (m - 4) mc)) = w4 at hbox hbl hown ⊢
                 clear honly)
              | (have hbox := heap_alloc_new w3 (.cells #[.int .i64 g0, .int .i64 a0, .int .i64 q0, .slice B (m - 4) mc] 29)
                 have hbl := HS3.out.2.2.2.alloc HS3.out.2.2.2.size (.cells #[.int .i64 g0, .int .i64 a0, .int .i64 q0, .slice B (m - 4) mc] 29)
                 have hown := HO3.out.below ((Below.refl w3.heap.size w3).alloc (Nat.le_refl _) (.cells #[.int .i64 g0, .int .i64 a0, .int .i64 q0, .slice B (m - 4) mc] 29))
                 generalize w3.alloc (.cells #[.int .i64 g0, .int .i64 a0, .int .i64 q0, .slice B (m - 4) mc] 29) = w4 at hbox hbl hown ⊢)
            obtain ⟨y0, y1, y2, y3, _⟩ := box4 hbox
            have HBL := Lib.hid hbl
            have HOWN := Lib.hid hown
            have hm9 : m - 4 ≤ 1000000000 := by omega
            have HRG := Lib.hid (right_calls ⟨g0, a0, q0, ts⟩ B (m - 4) mc w4 (hown.rd encN_len) hm9)
            clear hbox hbl hown hb3 ho3 HS3 HO3 HCL HKA HKC HKO l0 l1 l2 hoo
            go_wp2_with fail
            refine HRG.out.mono ?_
            rintro e w5 ⟨rfl, hb5⟩
            have x0 := below_cell hb5 (Nat.le_refl _) y0
            have x1 := below_cell hb5 (Nat.le_refl _) y1
            have x2 := below_cell hb5 (Nat.le_refl _) y2
            have x3 := below_cell hb5 (Nat.le_refl _) y3
            have HB5 := Lib.hid (HBL.out.trans (hb5.mono HBL.out.size))
            have HO5 := Lib.hid (HOWN.out.below hb5)
            have hlow : w.heap.size < wr.heap.size := Nat.lt_of_lt_of_le HWZ.out HB.out.size
            have hres : w5.heap[w.heap.size]? = some (.cells #[.int .i64 0, .int .i64 0, .int .i64 0, .slice none 0 0] 29) := (HB5.out.block _ hlow).trans HBK.out
            have HRES := Lib.hid hres
            obtain ⟨r0, r1, r2, r3, rf⟩ := box4 hres
            have HLOW := Lib.hid hlow
            have HBF5 := Lib.hid (HBF.out.trans (HB5.out.mono HBF.out.size))
            clear y0 y1 y2 y3 hb5 hres hlow HRG
            cases hr : rightS ⟨g0, a0, q0, ts⟩ with
            | false =>
              have HNO : Hid (decS xs = none) := by
                unfold Hid
                rw [HFIN.out]
                exact if_neg fun c => by rw [hr] at c; exact absurd c.2 (by simp)
              clear hr
              go_wp2_with fail
              obtain ⟨hs1, hs2⟩ := set4 HRES.out (.int .i64 0) (.int .i64 0) (.int .i64 0) (.slice none 0 0)
              obtain ⟨y0, y1, y2, y3, _⟩ := box4 hs1
              have hbf := HBF5.out.trans (hs2.below HBF5.out.size (fun i hi => Nat.le_of_eq hi.symm))
              refine bodyPost_ret (v := .tuple #[.agg #[.int .i64 0, .int .i64 0, .int .i64 0, .slice none 0 0], .bool false]) (by simp [results, Try.results11, go_sem, y0, y1, y2, y3]; try rfl) rfl ⟨hbf, .inl ⟨HNO.out, rfl⟩⟩
            | true =>
              have HYES : Hid (decS xs = some ⟨g0, a0, q0, ts⟩) := by
                unfold Hid
                rw [HFIN.out]
                exact if_pos ⟨by have := HTL.out; omega, hr⟩
              have HRT := Lib.hid (right_iff.1 hr)
              clear hr
              go_wp2_with fail
              obtain ⟨hs1, hs2⟩ := set4 HRES.out (.int .i64 g0) (.int .i64 a0) (.int .i64 q0) (.slice B (m - 4) mc)
              obtain ⟨y0, y1, y2, y3, _⟩ := box4 hs1
              have hbf := HBF5.out.trans (hs2.below HBF5.out.size (fun i hi => Nat.le_of_eq hi.symm))
              have hof := HO5.out.only hs2 (fun x hx he => by have h8 := own_above HO5.out x hx; have h9 := HLOW.out; exact absurd he (by omega))
              have hk50 : m - 4 ≤ 50 := by have := HRT.out.few; have := HTL.out; simp only at *; omega
              refine bodyPost_ret (v := .tuple #[.agg #[.int .i64 g0, .int .i64 a0, .int .i64 q0, .slice B (m - 4) mc], .bool true]) (by simp [results, Try.results11, go_sem, y0, y1, y2, y3]; try rfl) rfl ⟨hbf, .inr ⟨⟨g0, a0, q0, ts⟩, B, m - 4, mc, HYES.out, rfl, hof.rd encN_len, own_nil_cap hof, hk50, fun x hx => own_from hof (Nat.le_trans HBX.out.size HB.out.size) x hx⟩⟩
        · have hq : (k0 != (m : Int) - 4) = true := by simp [hk0]
          have HNO : Hid (decS xs = none) := by unfold Hid; rw [HFIN.out]; exact if_neg fun c => hk0 (by rw [c.1]; have := HTL.out; omega)
          go_wp2_with fail
          obtain ⟨hs1, hs2⟩ := set4 HBK.out (.int .i64 0) (.int .i64 0) (.int .i64 0) (.slice none 0 0)
          obtain ⟨y0, y1, y2, y3, _⟩ := box4 hs1
          have hbf := HBF.out.trans (hs2.below HBF.out.size (fun i hi => Nat.le_of_eq hi.symm))
          refine bodyPost_ret (v := .tuple #[.agg #[.int .i64 0, .int .i64 0, .int .i64 0, .slice none 0 0], .bool false]) (by simp [results, Try.results11, go_sem, y0, y1, y2, y3]; try rfl) rfl ⟨hbf, .inl ⟨HNO.out, rfl⟩⟩
end Go.Proofs.Ytideokbaenkijaa
