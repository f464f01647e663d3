/-
  merge.Merge and merge.Split.
-/
import Derived.Test.YtmabmnkdigdaiaaDoorJNew
namespace Go.Proofs.YtmabmnkdigdaiaaDoor
open Go.RowKit

/-- All that comes, one after the other. -/
inductive Merged : List (List Cell) → List Cell → Prop
  | done {L : List (List Cell)} : (∀ l ∈ L, l = []) → Merged L []
  | step {L : List (List Cell)} {t : Nat} {c : Cell} {out : List Cell} : IsBest L t c → Merged (nextD c L) out → Merged L (c :: out)
theorem Merged.unique {L : List (List Cell)} {a : List Cell} (h : Merged L a) : ∀ {b : List Cell}, Merged L b → a = b := by
  induction h with
  | done h1 =>
    intro b hb
    cases hb with
    | done => rfl
    | step h2 _ =>
      obtain ⟨⟨xs, h3⟩, _⟩ := h2
      have := h1 _ (List.mem_of_getElem? h3)
      cases this
  | step h1 _ ih =>
    intro b hb
    cases hb with
    | done h2 =>
      obtain ⟨⟨xs, h3⟩, _⟩ := h1
      have := h2 _ (List.mem_of_getElem? h3)
      cases this
    | step h2 h3 =>
      obtain ⟨_, rfl⟩ := h1.unique h2
      rw [ih h3]

theorem sum_le {L M : List (List Cell)} (h : M.length = L.length) (hl : ∀ (i : Nat) l m, L[i]? = some l → M[i]? = some m → m.length ≤ l.length) : (M.map List.length).sum ≤ (L.map List.length).sum := by
  induction L generalizing M with
  | nil => have := List.eq_nil_of_length_eq_zero h; subst this; exact Nat.le_refl _
  | cons a L ih =>
    cases M with
    | nil => simp at h
    | cons b M =>
      have h1 := hl 0 a b rfl rfl
      have h2 := ih (M := M) (by simpa using h) (fun i l m hi hm => hl (i + 1) l m (by simpa using hi) (by simpa using hm))
      simp; omega
theorem sum_lt {L M : List (List Cell)} (h : M.length = L.length) (hl : ∀ (i : Nat) l m, L[i]? = some l → M[i]? = some m → m.length ≤ l.length) {t : Nat} {l m : List Cell} (h1 : L[t]? = some l) (h2 : M[t]? = some m) (hlt : m.length < l.length) : (M.map List.length).sum < (L.map List.length).sum := by
  have a := sum_set h1
  have b := sum_set h2
  have c := sum_le (L := L.set t []) (M := M.set t []) (by simp [h]) (fun i l m hi hm => by
    rw [List.getElem?_set] at hi hm
    split at hi
    · rename_i e
      subst e
      split at hm
      · split at hm
        · injection hm with hm; subst hm; simp
        · cases hm
      · contradiction
    · rename_i e
      rw [if_neg e] at hm
      exact hl i l m hi hm)
  omega
theorem dropWhile_len (p : Cell → Bool) (l : List Cell) : (l.dropWhile p).length ≤ l.length := (List.dropWhile_sublist p).length_le
theorem leftC_next {L : List (List Cell)} {t : Nat} {c : Cell} (h : IsBest L t c) : leftC (nextD c L) < leftC L := by
  obtain ⟨⟨xs, h1⟩, _⟩ := h
  refine sum_lt (by simp [nextD]) (fun i l m hi hm => ?_) h1 (m := (c :: xs).dropWhile fun y => decide (y.order c = 0)) (by simp [nextD, h1]) ?_
  · rw [nextD, List.getElem?_map, hi] at hm
    injection hm with hm
    rw [← hm]; exact dropWhile_len _ _
  · rw [List.dropWhile_cons, if_pos (by simp [order_is.refl])]
    have := dropWhile_len (fun y => decide (y.order c = 0)) xs
    simp; omega
theorem muW_left {base lim bm : Nat} {A : Option Addr} {L : List (List Cell)} {w : World} (h : MAt base lim bm A L w) : muW bm w = leftC L := by
  obtain ⟨n, cap, rs, h1, _, _, h4, _⟩ := h
  rw [muW_of h1, ← h4.sum]
  exact congrArg List.sum (List.map_congr_left fun r hr => (h1.ok r hr).rd.len)

/-- The beginning rises. -/
theorem rises_of {l : List Cell} (h : ∀ j b c, l[j]? = some b → l[j + 1]? = some c → b.order c < 0) : Rises l := by
  unfold Rises
  induction l with
  | nil => exact List.Pairwise.nil
  | cons a l ih =>
    have hl := ih (fun j b c h1 h2 => h (j + 1) b c (by simpa using h1) (by simpa using h2))
    refine List.Pairwise.cons (fun c hc => ?_) hl
    cases l with
    | nil => cases hc
    | cons b l =>
      have h1 := h 0 a b rfl rfl
      rcases List.mem_cons.1 hc with rfl | hc
      · exact h1
      · exact order_is.lt_le h1 (by have := (List.pairwise_cons.1 hl).1 c hc; omega)
theorem begGo_good (l : List Cell) : ∀ (f k j : Nat), k ≤ j → j < begGo l f k → goodAt l j = true
  | 0, k, j, h1, h2 => by unfold begGo at h2; omega
  | f + 1, k, j, h1, h2 => by
    unfold begGo at h2
    split at h2
    · rename_i hg
      rcases Nat.lt_or_ge k j with h | h
      · exact begGo_good l f (k + 1) j h h2
      · have : j = k := by omega
        rw [this]; exact hg
    · omega
theorem begC_get {l : List Cell} {j : Nat} {c : Cell} (h : (begC l)[j]? = some c) : l[j]? = some c ∧ goodAt l j = true := by
  unfold begC at h
  rw [List.getElem?_take] at h
  split at h
  · exact ⟨h, begGo_good l _ 0 j (Nat.zero_le _) (by assumption)⟩
  · cases h
theorem goodAt_ok {l : List Cell} {j : Nat} {c : Cell} (h : l[j]? = some c) (hg : goodAt l j = true) : c.ok = true := by
  cases hc : c.ok with
  | true => rfl
  | false => rw [goodAt_not h hc] at hg; cases hg
theorem begC_rises (l : List Cell) : Rises (begC l) := rises_of fun j b c h1 h2 => by
  obtain ⟨h3, h4⟩ := begC_get h1
  obtain ⟨h5, h6⟩ := begC_get h2
  rw [goodAt_succ h5 h3 (goodAt_ok h5 h6)] at h6
  exact of_decide_eq_true h6
theorem begC_ok (l : List Cell) : ∀ c ∈ begC l, c.ok = true := fun c hc => by
  obtain ⟨j, hj⟩ := List.getElem?_of_mem hc
  obtain ⟨h1, h2⟩ := begC_get hj
  exact goodAt_ok h1 h2
theorem begC_mem (l : List Cell) : ∀ c ∈ begC l, c ∈ l := fun _ hc => List.mem_of_mem_take hc
/-- What rises and is right is its own beginning. -/
theorem begC_self {l : List Cell} (h : Rises l) (hok : ∀ c ∈ l, c.ok = true) : begC l = l := by
  rw [begC_eq l l.length (Nat.le_refl _) (goodAt_end l _ (Nat.le_refl _)) (fun j hj => ?_), List.take_of_length_le (Nat.le_refl _)]
  cases j with
  | zero => exact goodAt_zero (List.getElem?_eq_getElem hj) (hok _ (List.getElem_mem hj))
  | succ j =>
    rw [goodAt_succ (List.getElem?_eq_getElem hj) (List.getElem?_eq_getElem (by omega)) (hok _ (List.getElem_mem hj))]
    exact decide_eq_true (List.pairwise_iff_getElem.1 h j (j + 1) (by omega) hj (by omega))

theorem MAt.best {base lim bm : Nat} {A : Option Addr} {L : List (List Cell)} {w : World} (h : MAt base lim bm A L w) : (∀ l ∈ L, l = []) ∨ ∃ t c, IsBest L t c := by
  obtain ⟨n, cap, rs, h1, h2, h3, h4, _⟩ := h
  cases rs with
  | nil =>
    left
    intro l hl
    cases l with
    | nil => rfl
    | cons d ys =>
      obtain ⟨i, hi⟩ := List.getElem?_of_mem hl
      obtain ⟨r, hr, _⟩ := h4.all i _ hi (by simp); cases hr
  | cons x rest =>
    right
    obtain ⟨t, _, h, _⟩ := h4.best h1.own.1 h2 (h3 x (by simp))
    exact ⟨t, _, h⟩
theorem IsBest.some_ {L : List (List Cell)} {t : Nat} {c : Cell} (h : IsBest L t c) : ¬ ∀ l ∈ L, l = [] := fun h2 => by
  obtain ⟨⟨xs, h3⟩, _⟩ := h
  have := h2 _ (List.mem_of_getElem? h3)
  cases this
theorem next_none (base lim bm : Nat) (A : Option Addr) (L : List (List Cell)) (w : World) (h : MAt base lim bm A L w) (hs : ∀ l ∈ L, Rises l) (hlw : lim ≤ w.heap.size) (hall : ∀ l ∈ L, l = []) :
    Calls Tryd.prog 14 #[.pointer (some ⟨bm, 0, none⟩)] w fun e w' => e = .returned (.tuple #[Cell.zero.v, .int .i64 0, .bool false]) ∧ MAt base lim bm A L w' ∧ Only (Mine bm A) w w' := by
  refine (next_calls base lim bm A L w h hs hlw).mono ?_
  rintro e w' ⟨h1, ⟨_, h2, h3⟩ | ⟨t, c, h2, _⟩⟩
  · exact ⟨h2, h3, h1⟩
  · exact absurd hall h2.some_
theorem next_some (base lim bm : Nat) (A : Option Addr) (L : List (List Cell)) (w : World) (h : MAt base lim bm A L w) (hs : ∀ l ∈ L, Rises l) (hlw : lim ≤ w.heap.size) (t : Nat) (c : Cell) (hb : IsBest L t c) :
    Calls Tryd.prog 14 #[.pointer (some ⟨bm, 0, none⟩)] w fun e w' => e = .returned (.tuple #[c.v, .int .i64 t, .bool true]) ∧ MAt base lim bm A (nextD c L) w' ∧ Only (Mine bm A) w w' := by
  refine (next_calls base lim bm A L w h hs hlw).mono ?_
  rintro e w' ⟨h1, ⟨h2, _⟩ | ⟨t', c', h2, h3, h4⟩⟩
  · exact absurd h2 hb.some_
  · obtain ⟨rfl, rfl⟩ := hb.unique h2
    exact ⟨h3, h4, h1⟩

theorem own_ge {w : World} {base n cap k : Nat} {A : Option Addr} {xs : List Cell} (h : OwnC w base A n cap xs) (e : A = some ⟨k, 0, none⟩) : base ≤ k := by
  rcases h.shape with ⟨h1, _⟩ | ⟨g, h1, h2, _⟩
  · rw [h1] at e; cases e
  · rw [h1] at e; injection e with e; injection e with e; omega
theorem mine_lt {bm lim : Nat} {A : Option Addr} (hA : ∀ g, A = some ⟨g, 0, none⟩ → g < lim) (hb : bm < lim) : ∀ i, Mine bm A i → i < lim := fun i hi => by
  rcases hi with rfl | hi
  · exact hb
  · exact hA i hi
theorem own_far {w : World} {base n cap : Nat} {A : Option Addr} {xs : List Cell} {S : Nat → Prop} (h : OwnC w base A n cap xs) (hS : ∀ i, S i → i < base) : ∀ g, A = some ⟨g, 0, none⟩ → ¬ S g := fun g hg e => by
  have := own_ge h hg
  have := hS g e
  omega

set_option maxHeartbeats 8000000 in
theorem merge_calls (A0 : Option Addr) (n c0 : Nat) (rows : List Row) (w : World) (hx : RdRows w A0 n rows) (hn : n ≤ 1000) (hN : leftC (begL rows) ≤ 1000000) (hT : Lib.Utf8Tabs 1 2 w) :
    Calls Tryd.prog 20 #[.slice A0 n c0] w fun e w' => ∃ out, Merged (begL rows) out ∧ OutC out w e w' := by
  have hrise : Hid (∀ l ∈ begL rows, Rises l) := fun l hl => by
    obtain ⟨r, _, rfl⟩ := List.mem_map.1 hl
    exact begC_rises _
  have hnew := Lib.hid (new_calls A0 n c0 rows w hx hn hT)
  generalize begL rows = L at *
  clear hx hT
  go_enter Tryd.func20, Tryd.ntmps20
  go_wp2_with (go_at_call 12; refine hnew.out.mono ?_; clear hnew; rintro e w1 ⟨bm, A, rfl, hM, hb, hbm, hbm2, hA⟩)
  have HA := Lib.hid hA
  have hA0 : Hid (∀ g, A = some ⟨g, 0, none⟩ → g < w1.heap.size) := fun g hg => (hA g hg).2
  clear hA
  have hb1 := Below.refl w1.heap.size w1
  have hown0 := Own.nil 35 8 Cell.l w1 w1.heap.size
  go_loopw [3] (fun o wr => ∃ (L1 : List (List Cell)) (A' : Option Addr) (m cap : Nat) (out : List Cell), o = .slice A' m cap ∧ OwnC wr w1.heap.size A' m cap out ∧ MAt w.heap.size w1.heap.size bm A L1 wr ∧ Hid (∀ l ∈ L1, Rises l) ∧ Hid (∀ r, Merged L1 r → Merged L (out ++ r)) ∧ m + leftC L1 ≤ 1000000 ∧ w1.heap.size ≤ wr.heap.size ∧ Below w.heap.size w wr) (fun _ wr => muW bm wr)
  case atStart => exact ⟨L, none, 0, 0, [], rfl, hown0, hM, hrise.out, fun r hr => hr, by omega, Nat.le_refl _, hb⟩
  case round =>
    clear hM hb hb1 hown0
    obtain ⟨L1, A', m, cap, out, rfl, hown, hM, hrs, hmer, hm, hsz, hb⟩ := hrel
    have HM := Lib.hid hM
    rcases hM.best with hall | ⟨t, c, hbest⟩
    · have hnext := Lib.hid (next_none w.heap.size w1.heap.size bm A L1 wr hM hrs.out hsz hall)
      have hfin := Lib.hid (hmer.out [] (.done hall))
      clear hall hM
      go_wp2_with (go_at_call 14; refine hnext.out.mono ?_; clear hnext; rintro e w2 ⟨rfl, hM2, ho2⟩)
      go_ret
      refine ⟨out, by have := hfin.out; rwa [List.append_nil] at this, ?_⟩
      have hq := (Below.refl w2.heap.size w2).alloc (Nat.le_refl _) (.cells Cell.zero.cells 35)
      refine ⟨A', m, cap, rfl, ((hown.only ho2 (own_far hown (mine_lt hA0.out hbm))).below hq).lower (Nat.le_trans hbm2 (by omega)), hb.trans ((ho2.trans (hq.only _)).below hb.size (fun i hi => ?_))⟩
      rcases hi with rfl | hi
      · exact hbm2
      · exact (HA.out i hi).1
    · have hnext := Lib.hid (next_some w.heap.size w1.heap.size bm A L1 wr hM hrs.out hsz t c hbest)
      have hlt := leftC_next hbest
      have HB := Lib.hid hbest
      have hmu : Hid (muW bm wr = leftC L1) := muW_left hM
      clear hM hbest
      have HB0 := Lib.hid (mine_lt hA0.out hbm)
      go_wp2_with (first
        | (go_at_call 14; refine hnext.out.mono ?_; clear hnext; rintro e w2 ⟨rfl, hM2, ho2⟩; have hown2 := (hown.only ho2 (own_far hown HB0.out)).below ((Below.refl _ _).alloc (Nat.le_refl _) (.cells c.cells 35)); have hsz2 : w1.heap.size ≤ (w2.alloc (.cells c.cells 35)).heap.size := (by have := ho2.size; simp; omega))
        | (at_builtin; refine app_cell rfl (.tmp 19) (.tmp 21) rfl c rfl hown2 (by simp) rfl (by omega) hsz2 ?_; intro g cap' w4 h1 h2 h3 h4))
      have hM3 := hM2.later ((Below.refl _ _).alloc (Nat.le_refl _) (.cells c.cells 35))
      have hM4 := hM3.only h2 (fun e => by have := own_ge hown e; omega) (fun g hg e => by have := own_ge hown e; have := (HA.out g hg).2; omega) (fun i hi e => by have := own_ge hown e; omega)
      have hfar := ((Below.refl w2.heap.size w2).alloc (Nat.le_refl _) (.cells c.cells 35)).only (Mine bm A)
      have hbig := ho2.trans hfar
      go_roundw
      case rel =>
        refine ⟨nextD c L1, some ⟨g, 0, none⟩, m + 1, cap', out ++ [c], rfl, h1, hM4, rises_map hrs.out _, fun r hr => ?_, by omega, Nat.le_trans hsz2 h2.size, ?_⟩
        · rw [List.append_assoc]
          exact hmer.out _ (.step HB.out hr)
        · refine (hb.trans (hbig.below hb.size (fun i hi => ?_))).trans (h2.below ?_ (fun i hi => ?_))
          · rcases hi with rfl | hi
            · exact hbm2
            · exact (HA.out i hi).1
          · have := hb.size; have := ho2.size; simp; omega
          · have := own_ge hown hi; have := hbm; omega
      case measure =>
        rw [hmu.out, muW_left hM4]
        exact hlt
end Go.Proofs.YtmabmnkdigdaiaaDoor
