/-
  The merger passes over the top's first cell.
-/
import Derived.Test.YtmabmnkdigdaiaaDoorJHOps
namespace Go.Proofs.YtmabmnkdigdaiaaDoor
open Go.RowKit

/-- What is behind the first cell. -/
theorem rdc_tail {w : World} {b off n : Nat} {xs : List Cell} (h : RdC w (some ⟨b, off, none⟩) n xs) (_hn : 1 ≤ n) : RdC w (some ⟨b, off + 8, none⟩) (n - 1) xs.tail := by
  refine ⟨by rw [h.len, List.length_tail], fun i c hc => ?_⟩
  rw [List.getElem?_tail] at hc
  obtain ⟨b', off', h1, h2, h3⟩ := h.at_ (i + 1) c hc
  injection h1 with h1
  injection h1 with e1 e2 _
  subst e1; subst e2
  refine ⟨b, off + 8, rfl, h2, fun j v hv => ?_⟩
  have := h3 j v hv
  rwa [show off + (i + 1) * 8 + j = off + 8 + i * 8 + j from by omega] at this
/-- The top's cells are others of the same block. -/
theorem HeapAt.top {w : World} {base bm n cap g : Nat} {x : Run} {rest : List Run} (h : HeapAt w base bm (some ⟨g, 0, none⟩) n cap (x :: rest)) (off' n' cap' : Nat) (xs' : List Cell) (hr : RdC w (some ⟨x.b, off', none⟩) n' xs') (hn : n' ≤ 1000000) (hc : n' ≤ cap') :
    HeapAt (w.setCell ⟨g, 0, none⟩ (.slice (some ⟨x.b, off', none⟩) n' cap')) base bm (some ⟨g, 0, none⟩) n cap (⟨x.b, off', n', cap', xs', x.turn⟩ :: rest) ∧ Only (fun k => (some ⟨g, 0, none⟩ : Option Addr) = some ⟨k, 0, none⟩) w (w.setCell ⟨g, 0, none⟩ (.slice (some ⟨x.b, off', none⟩) n' cap')) := by
  have e := own_set Run.l_len h.own 0 0 ⟨x.b, off', n', cap', xs', x.turn⟩ x (.slice (some ⟨x.b, off', none⟩) n' cap') rfl (by omega) rfl
  rw [Nat.zero_mul, Nat.zero_add, List.set_cons_zero] at e
  obtain ⟨e1, e2⟩ := e
  have hx := h.ok x (by simp)
  refine ⟨⟨e2.cell h.head (fun e => h.sep bm e rfl), (only_frozen e2 (lt_of_cell h.head) (fun e => h.sep bm e rfl)).trans h.free, e1, h.below, h.sep, fun r hr' => ?_, h.few⟩, e2⟩
  rcases List.mem_cons.1 hr' with rfl | hr'
  · exact ⟨hr.only e2 (fun a ha e => by injection ha with ha; subst ha; exact hx.farg x.b e rfl), hn, hc, hx.farm, hx.farg⟩
  · have hk := h.ok r (by simp [hr'])
    exact hk.only e2 (fun e => hk.farg r.b e rfl)

def PassOut (base bm : Nat) (A : Option Addr) (x : Run) (rest : List Run) (w w' : World) : Prop := ∃ n' cap' rs', HeapAt w' base bm A n' cap' rs' ∧ HeapFrom Run.less 0 n' rs' ∧ (∀ r ∈ rs', r.xs ≠ []) ∧
    ((x.xs.tail = [] ∧ rs'.Perm rest) ∨ (x.xs.tail ≠ [] ∧ ∃ x' : Run, x'.turn = x.turn ∧ x'.xs = x.xs.tail ∧ x'.b = x.b ∧ rs'.Perm (x' :: rest))) ∧ Only (fun k => k = bm ∨ A = some ⟨k, 0, none⟩) w w'

set_option maxHeartbeats 4000000 in
theorem pass_calls (base bm : Nat) (A : Option Addr) (n cap : Nat) (x : Run) (rest : List Run) (w : World) (h : HeapAt w base bm A n cap (x :: rest)) (hd : HeapFrom Run.less 0 n (x :: rest)) (hne : ∀ r ∈ x :: rest, r.xs ≠ []) :
    Calls Tryd.prog 34 #[.pointer (some ⟨bm, 0, none⟩)] w fun e w' => e = .returned (.tuple #[]) ∧ PassOut base bm A x rest w w' := by
  have hl : n = (x :: rest).length := h.own.1
  have hl' : n = rest.length + 1 := by simpa using hl
  subst hl'
  obtain ⟨r, g, h1, rfl, _, _, c0, c1, ok1⟩ := h.get 0 (by omega)
  obtain rfl : x = r := by simpa using h1
  obtain ⟨n1, _⟩ := ok1.first (hne x (by simp))
  have hfew := h.few
  have hh := h.head
  have hfz : ∀ j, w.frozen? ⟨g, j, none⟩ = false := h.own.2.frozenAt
  have hsm := ok1.small
  have hroom := ok1.room
  have hs1 : (1 : Int) ≤ (x.n : Int) := by omega
  have hs2 : (x.n : Int) ≤ (x.cap : Int) := by omega
  simp only [Nat.zero_mul, Nat.zero_add] at c0 c1
  have H := Lib.hid h
  have HD := Lib.hid hd
  have HN := Lib.hid hne
  have hsep : g ≠ bm := h.sep g rfl
  have hlen1 : (1 : Int) ≤ (rest.length : Int) + 1 := by omega
  have hrd := Lib.hid ok1.rd
  clear h hd hne h1 ok1 hl
  have hxl : Hid (x.n = x.xs.length) := hrd.out.len
  by_cases hone : x.n = 1
  · have htl : Hid (x.xs.tail = []) := by
      have := hxl.out
      exact List.eq_nil_of_length_eq_zero (by rw [List.length_tail]; omega)
    have hpop : ∀ off' cap', Hid (Calls Tryd.prog 45 #[.iface 59 (.pointer (some ⟨bm, 0, none⟩))] (w.setCell ⟨g, 0, none⟩ (.slice (some ⟨x.b, off', none⟩) 0 cap')) fun e w' => (∃ v, e = .returned v) ∧ PassOut base bm (some ⟨g, 0, none⟩) x rest w w') := fun off' cap' => by
      have e := H.out.top off' 0 cap' [] (Rd.nil _ _ _ _) (by omega) (by omega)
      have q := hpop_calls base bm (some ⟨g, 0, none⟩) rest.length cap _ _ _ e.1 (HD.out.turned _) rfl (fun i r hi hr => HN.out r (by
        obtain ⟨i, rfl⟩ : ∃ k, i = k + 1 := ⟨i - 1, by omega⟩
        rw [List.getElem?_cons_succ] at hr
        exact List.mem_cons_of_mem _ (List.mem_of_getElem? hr)))
      refine q.mono ?_
      rintro e' w' ⟨hv, rs', k1, k2, k3, k4, k5⟩
      exact ⟨hv, rest.length, cap, rs', k1, k3, k4, .inl ⟨htl.out, (List.perm_cons _).1 k2⟩, (e.2.mono (fun k _ h => .inr h)).trans k5⟩
    have Hpop := Lib.hid hpop
    clear hpop
    by_cases hcap : x.cap = 1
    · go_enter Tryd.func34, Tryd.ntmps34
      go_wp2_with (go_at_call 45; refine (Hpop.out _ _).out.mono ?_; rintro e w2 ⟨⟨v, rfl⟩, hp⟩; have hp := Lib.hid hp)
      all_goals refine bodyPost_ret (results_none rfl _ _ _) rfl ?_
      all_goals exact ⟨rfl, hp.out⟩
    · go_enter Tryd.func34, Tryd.ntmps34
      go_wp2_with (go_at_call 45; refine (Hpop.out _ _).out.mono ?_; rintro e w2 ⟨⟨v, rfl⟩, hp⟩; have hp := Lib.hid hp)
      all_goals refine bodyPost_ret (results_none rfl _ _ _) rfl ?_
      all_goals exact ⟨rfl, hp.out⟩
  · have htl : Hid (x.xs.tail ≠ []) := fun e => by
      have := congrArg List.length e
      rw [List.length_tail] at this
      have := hxl.out
      simp at *; omega
    have e := H.out.top (x.off + 8) (x.n - 1) (x.cap - 1) x.xs.tail (rdc_tail hrd.out (by omega)) (by omega) (by omega)
    have hfix : Hid (Calls Tryd.prog 46 #[.iface 59 (.pointer (some ⟨bm, 0, none⟩)), .int .i64 0] (w.setCell ⟨g, 0, none⟩ (.slice (some ⟨x.b, x.off + 8, none⟩) (x.n - 1) (x.cap - 1))) fun e w' => e = .returned (.tuple #[]) ∧ PassOut base bm (some ⟨g, 0, none⟩) x rest w w') := by
      refine (fix_calls base bm _ _ _ _ _ e.1 (HD.out.turned _) (fun r hr => ?_)).mono ?_
      · rcases List.mem_cons.1 hr with rfl | hr
        · exact htl.out
        · exact HN.out r (by simp [hr])
      · rintro e' w' ⟨rfl, rs', k1, k2, k3, k4, k5, k6⟩
        refine ⟨rfl, _, cap, rs', k1, k4, fun r hr => ?_, .inr ⟨htl.out, ⟨x.b, x.off + 8, x.n - 1, x.cap - 1, x.xs.tail, x.turn⟩, rfl, rfl, rfl, k2⟩, ((e.2.trans k6).mono (fun k _ h => .inr h))⟩
        obtain ⟨i, hi, hr⟩ := List.getElem_of_mem hr
        exact k5 i r (by have := k1.own.1; omega) (by rw [List.getElem?_eq_getElem (by omega), hr])
    clear e
    have hcap : ¬ x.cap = 1 := by omega
    have hn0 : ((x.n - 1 : Nat) : Int) ≠ 0 := by omega
    go_enter Tryd.func34, Tryd.ntmps34
    go_wp2_with (go_at_call 46; refine hfix.out.mono ?_; rintro e w2 ⟨rfl, hp⟩; have hp := Lib.hid hp)
    all_goals go_end0
    all_goals exact ⟨rfl, hp.out⟩
end Go.Proofs.YtmabmnkdigdaiaaDoor
