/-
  sum.All.
-/
import Derived.Test.YtideokbaenkijaaMNext
namespace Go.Proofs.Ytideokbaenkijaa
open Go.RowKit

theorem rdb_some {w : World} {A : Option Addr} {n : Nat} {xs : List Int} (h : RdB w A n xs) (hn : 0 < n) : ∃ b o, A = some ⟨b, o, none⟩ ∧ b < w.heap.size := by
  obtain ⟨_, b, o, _, e, hb, _⟩ := h.get 0 hn
  exact ⟨b, o, e, hb⟩
/-- All's answer. -/
def AllOut (xs : List Int) (n : Nat) (w : World) (e : Ending) (w' : World) : Prop := Below w.heap.size w w' ∧ ∃ (rows : List BRow) (O : Option Addr) (k oc : Nat),
  e = .returned (.tuple #[.slice O k oc, .int .i64 ((n : Int) - ((allL xs).2.1.length : Nat)), .int .i64 ((allL xs).2.2 : Nat)]) ∧ Rd 1 BRow.l w' O k rows ∧ rows.map BRow.xs = (allL xs).1 ∧ (∀ r ∈ rows, BRowOk w' r) ∧ k ≤ n ∧ ∀ r ∈ rows, r.n ≤ r.cap ∧ r.cap ≤ maxLen
theorem all_split {p : List (List Int)} {x r zs xs : List Int} (h : allL xs = (p ++ (allL zs).1, (allL zs).2)) (hz : zs ≠ []) (hn : nextL zs = .whole x r) : allL xs = ((p ++ [x]) ++ (allL r).1, (allL r).2) := by
  rw [h, all_whole hz hn, List.append_assoc]
  rfl

set_option maxHeartbeats 4000000 in
set_option maxRecDepth 20000 in
theorem all_calls (A : Option Addr) (n cap : Nat) (xs : List Int) (w : World) (hx : RdB w A n xs) (hb : Bytes xs) (hn : n ≤ 1000000) (hcap : n ≤ cap) (hcm : cap ≤ maxLen) :
    Calls Try.prog 34 #[.slice A n cap] w (AllOut xs n w) := by
  have HX := Lib.hid hx
  have HBY := Lib.hid hb
  have HCM := Lib.hid hcm
  clear hx hb hcm
  go_enter Try.func34, Try.ntmps34
  go_wp2_with fail
  go_loopw [5, 6] (fun ov rv wr => ∃ (k oc rl rc : Nat) (O R : Option Addr) (rows : List BRow) (zs : List Int), ov = .slice O k oc ∧ rv = .slice R rl rc ∧ k + rl ≤ n ∧ rl ≤ rc ∧ Hid (rc ≤ maxLen) ∧ Hid (RdB wr R rl zs) ∧ Hid (Bytes zs) ∧ Hid (OwnR wr w.heap.size O k oc rows) ∧ Hid (∀ r ∈ rows, BRowOk wr r ∧ ∀ a, r.A = some a → a.block < wr.heap.size) ∧ Hid (∀ x, O = some ⟨x, 0, none⟩ → (∀ a, R = some a → a.block ≠ x) ∧ ∀ r ∈ rows, ∀ a, r.A = some a → a.block ≠ x) ∧ Hid (allL xs = (rows.map BRow.xs ++ (allL zs).1, (allL zs).2)) ∧ Hid (Below w.heap.size w wr) ∧ Hid (∀ r ∈ rows, r.n ≤ r.cap ∧ r.cap ≤ maxLen)) (fun _ rv _ => match rv with | .slice _ l _ => l | _ => 0)
  case atStart => exact ⟨0, 0, n, cap, none, A, [], xs, rfl, rfl, by omega, hcap, HCM.out, HX.out, HBY.out, Own.nil _ _ _ _ _, (fun r hr => nomatch hr), (fun x hx => nomatch hx), rfl, Below.refl _ _, (fun r hr => nomatch hr)⟩
  case round =>
    obtain ⟨k, oc, rl, rc, O, R, rows, zs, rfl, rfl, hkr, hrc, HRC, HRD, HBZ, HOW, HRO, HAP, HAL, HB, HCP⟩ := hrel
    by_cases hpos : 0 < rl
    · obtain ⟨b, off, rfl, hbl⟩ := rdb_some HRD.out hpos
      have hpos' : (rl : Int) > 0 := by omega
      have HNX := Lib.hid (next_calls b off rl rc zs wr HRD.out HBZ.out (by omega) hrc HRC.out)
      have hzne : zs ≠ [] := fun h => by have := HRD.out.len; rw [h] at this; simp at this; omega
      have HZN := Lib.hid hzne
      have HZL := Lib.hid HRD.out.len
      have HBL := Lib.hid hbl
      clear hzne hbl
      go_wp2_with fail
      refine HNX.out.mono ?_
      rintro e w2 ⟨hb2, hres⟩
      cases hnx : nextL zs with
      | torn =>
        rw [hnx] at hres
        subst hres
        have HFIN : Hid (allL xs = (rows.map BRow.xs, zs, 1)) := by unfold Hid; rw [HAL.out, all_torn HZN.out hnx, List.append_nil]
        have HB2 := Lib.hid (HB.out.trans (hb2.mono HB.out.size))
        have HR2 := Lib.hid ((HOW.out.below hb2).rd BRow.l_len)
        have HRO2 : Hid (∀ r ∈ rows, BRowOk w2 r) := fun r hr => (HRO.out r hr).1.below hb2
        clear hnx hb2 HNX HAL
        go_wp2_with fail
        go_ret3
        refine ⟨HB2.out, rows, O, k, oc, ?_, HR2.out, by rw [HFIN.out], HRO2.out, by omega, HCP.out⟩
        rw [HFIN.out]
        show _ = Ending.returned (.tuple #[.slice O k oc, .int .i64 ((n : Int) - (zs.length : Nat)), .int .i64 ((1 : Nat) : Int)])
        rw [← HZL.out]
        rfl
      | bad =>
        rw [hnx] at hres
        subst hres
        have HFIN : Hid (allL xs = (rows.map BRow.xs, zs, 2)) := by unfold Hid; rw [HAL.out, all_bad HZN.out hnx, List.append_nil]
        have HB2 := Lib.hid (HB.out.trans (hb2.mono HB.out.size))
        have HR2 := Lib.hid ((HOW.out.below hb2).rd BRow.l_len)
        have HRO2 : Hid (∀ r ∈ rows, BRowOk w2 r) := fun r hr => (HRO.out r hr).1.below hb2
        clear hnx hb2 HNX HAL
        go_wp2_with fail
        go_ret3
        refine ⟨HB2.out, rows, O, k, oc, ?_, HR2.out, by rw [HFIN.out], HRO2.out, by omega, HCP.out⟩
        rw [HFIN.out]
        show _ = Ending.returned (.tuple #[.slice O k oc, .int .i64 ((n : Int) - (zs.length : Nat)), .int .i64 ((2 : Nat) : Int)])
        rw [← HZL.out]
        rfl
      | whole x r =>
        rw [hnx] at hres
        obtain ⟨B, m, mc, g, gc, rfl, hB, hBn, hBb, hG, hmc1, hmc2⟩ := hres
        have HMC : Hid (m ≤ mc ∧ mc ≤ maxLen) := ⟨hmc1, hmc2⟩
        clear hmc1 hmc2
        obtain ⟨hless, hx64, pp, hpp⟩ := next_less hnx
        have HFIN : Hid (allL xs = ((rows.map BRow.xs ++ [x]) ++ (allL r).1, (allL r).2)) := all_split HAL.out HZN.out hnx
        have HB2 := Lib.hid (HB.out.trans (hb2.mono HB.out.size))
        have HOW2 := Lib.hid (HOW.out.below hb2)
        have HRO2 : Hid (∀ r ∈ rows, BRowOk w2 r ∧ ∀ a, r.A = some a → a.block < w2.heap.size) := fun r hr => ⟨(HRO.out r hr).1.below hb2, fun a ha => Nat.lt_of_lt_of_le ((HRO.out r hr).2 a ha) hb2.size⟩
        have hOlt : Hid (∀ x, O = some ⟨x, 0, none⟩ → x < wr.heap.size) := fun x hx => by
          rcases HOW.out.shape with ⟨h, _⟩ | ⟨y, h, _, h3⟩
          · rw [h] at hx; cases hx
          · rw [h] at hx; injection hx with hx; injection hx with hx; omega
        have hrlen : k + 1 + r.length ≤ n := by have := HZL.out; omega
        obtain ⟨hg1, hg2⟩ := own_cap hG
        have hbr : Bytes r := fun q hq => HBZ.out q (by rw [← hpp]; exact List.mem_append_right _ hq)
        have HBR := Lib.hid hbr
        have HGC := Lib.hid hg2
        have HGR := Lib.hid (hG.rd encB_len)
        have hgs := hG.shape
        have HG : Hid (wr.heap.size ≤ g ∧ g < w2.heap.size) := by
          rcases hgs with ⟨h, _⟩ | ⟨y, h, h2, h3⟩
          · cases h
          · injection h with h; injection h with h; subst h; exact ⟨h2, h3⟩
        have HBX := Lib.hid hB
        have HBN := Lib.hid hBn
        have HBB := Lib.hid hBb
        have hbase := Lib.hid HB2.out.size
        have hk1 : k ≤ 1000000 := by omega
        obtain ⟨rln, hrln⟩ : ∃ rln, rln = r.length := ⟨_, rfl⟩
        rw [← hrln] at hrlen hg1 ⊢
        rw [← hrln] at HGR
        have hls : rln < rl := by have := HZL.out; omega
        clear hB hBn hBb hG hless hx64 hpp hbr hg2 hgs hb2 HNX HAL HRD HOW HRO hnx hrln
        go_wp2_with (at_builtin; refine app_row rfl (.tmp 29) (.tmp 31) rfl ⟨B, m, mc, x⟩ rfl HOW2.out rfl rfl (by omega) hbase.out ?_; intro g3 ac' w4 h1 h2 h3 h4)
        have hneA : ∀ y, O = some ⟨y, 0, none⟩ → ∀ a : Addr, wr.heap.size ≤ a.block → a.block ≠ y := fun y hy a ha => by have := hOlt.out y hy; omega
        have HO4 := Lib.hid h1
        have HR4 : Hid (RdB w4 (some ⟨g, 0, none⟩) rln r) := HGR.out.only h2 (fun a ha he => by injection ha with ha; subst ha; exact hneA _ he ⟨g, 0, none⟩ HG.out.1 rfl)
        have HN4 : Hid (BRowOk w4 ⟨B, m, mc, x⟩) := ⟨HBX.out.only h2 (fun a ha he => hneA _ he a (HBB.out a ha).1 rfl), HBN.out⟩
        have HRO4 : Hid (∀ q ∈ rows, BRowOk w4 q ∧ ∀ a, q.A = some a → a.block < w2.heap.size) := fun q hq => ⟨(HRO2.out q hq).1.only h2 (fun a ha he => (HAP.out _ he).2 q hq a ha rfl), (HRO2.out q hq).2⟩
        have HB4 := Lib.hid (HB2.out.trans (h2.below hbase.out (own_above HOW2.out)))
        have hz : w2.heap.size ≤ w4.heap.size := h2.size
        refine ⟨⟨k + 1, ac', rln, gc, some ⟨g3, 0, none⟩, some ⟨g, 0, none⟩, rows ++ [(⟨B, m, mc, x⟩ : BRow)], r, rfl, rfl, by omega, by omega, HGC.out, HR4.out, HBR.out, HO4.out, ?_, ?_, by unfold Hid; rw [HFIN.out, List.map_append]; rfl, HB4.out, ?_⟩, by simp only; omega⟩
        · intro q hq
          rcases List.mem_append.1 hq with hq | hq
          · exact ⟨(HRO4.out q hq).1, fun a ha => Nat.lt_of_lt_of_le ((HRO4.out q hq).2 a ha) hz⟩
          · rw [List.mem_singleton.1 hq]
            exact ⟨HN4.out, fun a ha => Nat.lt_of_lt_of_le (HBB.out a ha).2 hz⟩
        rotate_left
        · intro q hq
          rcases List.mem_append.1 hq with hq | hq
          · exact HCP.out q hq
          · rw [List.mem_singleton.1 hq]
            exact HMC.out
        · intro y hy
          injection hy with hy; injection hy with hy
          subst hy
          refine ⟨fun a ha => ?_, fun q hq a ha => ?_⟩
          · injection ha with ha; subst ha
            rcases h3 with h3 | h3
            · exact hneA _ h3 ⟨g, 0, none⟩ HG.out.1
            · have := HG.out.2; show g ≠ _; omega
          · rcases List.mem_append.1 hq with hq | hq
            · rcases h3 with h3 | h3
              · exact (HAP.out _ h3).2 q hq a ha
              · have := (HRO4.out q hq).2 a ha; omega
            · rw [List.mem_singleton.1 hq] at ha
              rcases h3 with h3 | h3
              · exact hneA _ h3 a (HBB.out a ha).1
              · have := (HBB.out a ha).2; omega
    · have hz : zs = [] := List.eq_nil_of_length_eq_zero (by have := HRD.out.len; omega)
      have hrl0 : rl = 0 := by omega
      subst hz
      subst hrl0
      have HFIN : Hid (allL xs = (rows.map BRow.xs, [], 0)) := by unfold Hid; rw [HAL.out, all_nil, List.append_nil]
      have HR2 := Lib.hid (HOW.out.rd BRow.l_len)
      have HRO2 : Hid (∀ r ∈ rows, BRowOk wr r) := fun r hr => (HRO.out r hr).1
      clear HAL hpos
      go_wp2_with fail
      go_ret3
      refine ⟨HB.out, rows, O, k, oc, ?_, HR2.out, by rw [HFIN.out], HRO2.out, by omega, HCP.out⟩
      rw [HFIN.out]
      show _ = Ending.returned (.tuple #[.slice O k oc, .int .i64 ((n : Int) - ((0 : Nat) : Int)), .int .i64 ((0 : Nat) : Int)])
      rw [show (n : Int) - ((0 : Nat) : Int) = n by omega]
      rfl
end Go.Proofs.Ytideokbaenkijaa
