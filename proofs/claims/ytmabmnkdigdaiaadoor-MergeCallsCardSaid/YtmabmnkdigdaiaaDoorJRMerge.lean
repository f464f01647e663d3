/-
  joistref10's Merge.
-/
import Derived.Test.YtmabmnkdigdaiaaDoorJRSkip
namespace Go.Proofs.YtmabmnkdigdaiaaDoor
open Go.RowKit

theorem best_or (L : List (List Cell)) : (∀ l ∈ L, l = []) ∨ ∃ t c, IsBest L t c := by
  have : ∀ k, k ≤ L.length → ∃ b, BestIs (L.take k) b := by
    intro k
    induction k with
    | zero => exact fun _ => ⟨-1, BestIs.nil L⟩
    | succ k ih =>
      intro hk
      obtain ⟨b, hb⟩ := ih (by omega)
      have hLk : L[k]? = some L[k] := List.getElem?_eq_getElem (by omega)
      rw [take_succ hLk]
      cases hl : L[k] with
      | nil => exact ⟨b, hb.snoc_nil⟩
      | cons d ys =>
        rcases hb with ⟨_, h⟩ | ⟨t, c, rfl, h⟩
        · exact ⟨_, BestIs.first h⟩
        · by_cases hn : d.order c < 0
          · exact ⟨_, h.better hn⟩
          · exact ⟨t, .inr ⟨t, c, rfl, h.snoc fun d' ys' e => by injection e with e _; rw [← e]; exact hn⟩⟩
  obtain ⟨b, hb⟩ := this L.length (Nat.le_refl _)
  rw [List.take_of_length_le (Nat.le_refl _)] at hb
  rcases hb with ⟨_, h⟩ | ⟨t, c, _, h⟩
  · exact .inl h
  · exact .inr ⟨t, c, h⟩
theorem nextT_eq {L : List (List Cell)} (hs : ∀ l ∈ L, Rises l) (c : Cell) : nextT c L = nextD c L := by
  rw [nextD_tail hs c]
  unfold nextT
  apply List.map_congr_left
  intro l _
  cases l <;> rfl
theorem rnext_none (base lim bm : Nat) (A : Option Addr) (L : List (List Cell)) (w : World) (h : RAt base lim bm A L w) (hlw : lim ≤ w.heap.size) (hall : ∀ l ∈ L, l = []) :
    Calls Tryd.prog 15 #[.pointer (some ⟨bm, 0, none⟩)] w fun e w' => e = .returned (.tuple #[Cell.zero.v, .int .i64 0, .bool false]) ∧ RAt base lim bm A L w' ∧ Only (Mine bm A) w w' := by
  refine (rnext_calls base lim bm A L w h hlw).mono ?_
  rintro e w' ⟨h1, ⟨_, h2, h3⟩ | ⟨t, c, h2, _⟩⟩
  · exact ⟨h2, h3, h1.mono (fun _ _ h => .inr h)⟩
  · exact absurd hall h2.some_
theorem rnext_some (base lim bm : Nat) (A : Option Addr) (L : List (List Cell)) (w : World) (h : RAt base lim bm A L w) (hs : ∀ l ∈ L, Rises l) (hlw : lim ≤ w.heap.size) (t : Nat) (c : Cell) (hb : IsBest L t c) :
    Calls Tryd.prog 15 #[.pointer (some ⟨bm, 0, none⟩)] w fun e w' => e = .returned (.tuple #[c.v, .int .i64 t, .bool true]) ∧ RAt base lim bm A (nextD c L) w' ∧ Only (Mine bm A) w w' := by
  refine (rnext_calls base lim bm A L w h hlw).mono ?_
  rintro e w' ⟨h1, ⟨h2, _⟩ | ⟨t', c', h2, h3, h4⟩⟩
  · exact absurd h2 hb.some_
  · obtain ⟨rfl, rfl⟩ := hb.unique h2
    exact ⟨h3, by rw [← nextT_eq hs]; exact h4, h1.mono (fun _ _ h => .inr h)⟩
theorem RAt.later {base lim bm : Nat} {A : Option Addr} {L : List (List Cell)} {w w' : World} (h : RAt base lim bm A L w) (hb : Below w.heap.size w w') : RAt base lim bm A L w' := by
  obtain ⟨n, cap, rows, h1, h2⟩ := h
  exact ⟨n, cap, rows, h1.below hb, h2⟩
theorem RAt.only {base lim bm : Nat} {A : Option Addr} {L : List (List Cell)} {w w' : World} {S : Nat → Prop} (h : RAt base lim bm A L w) (ho : Only S w w') (hbm : ¬ S bm) (hA : ∀ g, A = some ⟨g, 0, none⟩ → ¬ S g) (hS : ∀ i, base ≤ i → i < lim → ¬ S i) : RAt base lim bm A L w' := by
  obtain ⟨n, cap, rows, h1, h2, h3⟩ := h
  exact ⟨n, cap, rows, h1.apart ho hbm hA (fun i _ ⟨r, hr, a, ha, hai⟩ => hS i (by rw [← hai]; exact (h3 r hr a ha).1) (by rw [← hai]; exact (h3 r hr a ha).2)), h2, h3⟩

set_option maxHeartbeats 8000000 in
theorem rmerge_calls (A0 : Option Addr) (n c0 : Nat) (rows : List Row) (w : World) (hx : RdRows0 w A0 n rows) (hn : n ≤ 1000) (hN : leftC (begL rows) ≤ 1000000) :
    Calls Tryd.prog 24 #[.slice A0 n c0] w fun e w' => ∃ out, Merged (begL rows) out ∧ OutC out w e w' := by
  have hrise : Hid (∀ l ∈ begL rows, Rises l) := fun l hl => by
    obtain ⟨r, _, rfl⟩ := List.mem_map.1 hl
    exact begC_rises _
  have hnew := Lib.hid (rnew_calls A0 n c0 rows w hx hn)
  generalize begL rows = L at *
  clear hx
  go_enter Tryd.func24, Tryd.ntmps24
  go_wp2_with (go_at_call 13; refine hnew.out.mono ?_; clear hnew; rintro e w1 ⟨bm, A, rfl, hM, hb, hbm, hbm2, hA⟩)
  have HA := Lib.hid hA
  have hA0 : Hid (∀ g, A = some ⟨g, 0, none⟩ → g < w1.heap.size) := fun g hg => (hA g hg).2
  clear hA
  have hq1 := (Below.refl w1.heap.size w1).alloc (Nat.le_refl _) (.cells #[] 35)
  have hown0 := Own.lit 35 8 Cell.l w1 w1.heap.size (Nat.le_refl _)
  have hM1 := hM.later hq1
  have hb1 := hb.trans (hq1.mono hb.size)
  have hz1 := hq1.size
  clear hM hb
  generalize w1.alloc (.cells #[] 35) = W1 at *
  go_loopg [4] (leftC L) (fun gk o wr => ∃ (L1 : List (List Cell)) (A' : Option Addr) (m cap : Nat) (out : List Cell), o = .slice A' m cap ∧ gk = leftC L1 ∧ OwnC wr w1.heap.size A' m cap out ∧ RAt w.heap.size w1.heap.size bm A L1 wr ∧ Hid (∀ l ∈ L1, Rises l) ∧ Hid (∀ r, Merged L1 r → Merged L (out ++ r)) ∧ m + leftC L1 ≤ 1000000 ∧ w1.heap.size ≤ wr.heap.size ∧ Below w.heap.size w wr)
  case atStart => exact ⟨L, some ⟨w1.heap.size, 0, none⟩, 0, 0, [], rfl, rfl, hown0, hM1, hrise.out, fun r hr => hr, by omega, hz1, hb1⟩
  case round =>
    clear hM1 hb1 hown0 hq1
    obtain ⟨L1, A', m, cap, out, rfl, rfl, hown, hM, hrs, hmer, hm, hsz, hb⟩ := hrel
    have HM := Lib.hid hM
    rcases best_or L1 with hall | ⟨t, c, hbest⟩
    · have hnext := Lib.hid (rnext_none w.heap.size w1.heap.size bm A L1 wr hM hsz hall)
      have hfin := Lib.hid (hmer.out [] (.done hall))
      clear hall hM
      go_wp2_with (go_at_call 15; refine hnext.out.mono ?_; clear hnext; rintro e w2 ⟨rfl, hM2, ho2⟩)
      go_ret
      refine ⟨out, by have := hfin.out; rwa [List.append_nil] at this, ?_⟩
      have hq := (Below.refl w2.heap.size w2).alloc (Nat.le_refl _) (.cells Cell.zero.cells 35)
      refine ⟨A', m, cap, rfl, ((hown.only ho2 (own_far hown (mine_lt hA0.out hbm))).below hq).lower (Nat.le_trans hbm2 (by omega)), hb.trans ((ho2.trans (hq.only _)).below hb.size (fun i hi => ?_))⟩
      rcases hi with rfl | hi
      · exact hbm2
      · exact (HA.out i hi).1
    · have hnext := Lib.hid (rnext_some w.heap.size w1.heap.size bm A L1 wr hM hrs.out hsz t c hbest)
      have hlt := leftC_next hbest
      have HB := Lib.hid hbest
      clear hM hbest
      have HB0 := Lib.hid (mine_lt hA0.out hbm)
      go_wp2_with (first
        | (go_at_call 15; refine hnext.out.mono ?_; clear hnext; rintro e w2 ⟨rfl, hM2, ho2⟩; have hown2 := (hown.only ho2 (own_far hown HB0.out)).below ((Below.refl _ _).alloc (Nat.le_refl _) (.cells c.cells 35)); have hsz2 : w1.heap.size ≤ (w2.alloc (.cells c.cells 35)).heap.size := (by have := ho2.size; simp; omega))
        | (at_builtin; refine app_cell rfl (.tmp 20) (.tmp 22) rfl c rfl hown2 (by simp) rfl (by omega) hsz2 ?_; intro g cap' w4 h1 h2 h3 h4))
      have hM3 := hM2.later ((Below.refl _ _).alloc (Nat.le_refl _) (.cells c.cells 35))
      have hM4 := hM3.only h2 (fun e => by have := own_ge hown e; omega) (fun g hg e => by have := own_ge hown e; have := (HA.out g hg).2; omega) (fun i _ hi e => by have := own_ge hown e; omega)
      have hfar := ((Below.refl w2.heap.size w2).alloc (Nat.le_refl _) (.cells c.cells 35)).only (Mine bm A)
      have hbig := ho2.trans hfar
      go_roundg (leftC (nextD c L1))
      case rel =>
        refine ⟨nextD c L1, some ⟨g, 0, none⟩, m + 1, cap', out ++ [c], rfl, rfl, h1, hM4, rises_map hrs.out _, fun r hr => ?_, by omega, Nat.le_trans hsz2 h2.size, ?_⟩
        · rw [List.append_assoc]
          exact hmer.out _ (.step HB.out hr)
        · refine (hb.trans (hbig.below hb.size (fun i hi => ?_))).trans (h2.below ?_ (fun i hi => ?_))
          · rcases hi with rfl | hi
            · exact hbm2
            · exact (HA.out i hi).1
          · have := hb.size; have := ho2.size; simp; omega
          · have := own_ge hown hi; have := hbm; omega
      case measure =>
        exact hlt
end Go.Proofs.YtmabmnkdigdaiaaDoor
