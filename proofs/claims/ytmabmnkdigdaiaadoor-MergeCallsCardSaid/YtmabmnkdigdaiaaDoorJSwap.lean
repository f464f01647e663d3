/-
  Two runs of a heap's row change places; the last one is taken.
-/
import Derived.Test.YtmabmnkdigdaiaaDoorJHeap
namespace Go.Proofs.YtmabmnkdigdaiaaDoor
open Go.RowKit

theorem flat_set {α : Type} {enc : α → List Value} {sz : Nat} (hsz : ∀ x, (enc x).length = sz) (x y : α) (j : Nat) (v : Value) (hj : j < sz) (hx : enc x = (enc y).set j v) : ∀ (xs : List α) (i : Nat), xs[i]? = some y → (xs.flatMap enc).set (i * sz + j) v = (xs.set i x).flatMap enc
  | [], i, h => by simp at h
  | z :: xs, 0, h => by
    simp at h; subst h
    rw [List.set_cons_zero, List.flatMap_cons, List.flatMap_cons, Nat.zero_mul, Nat.zero_add, List.set_append_left _ _ (by rw [hsz]; exact hj), hx]
  | z :: xs, i + 1, h => by
    rw [List.set_cons_succ, List.flatMap_cons, List.flatMap_cons, List.set_append_right _ _ (by rw [hsz, Nat.succ_mul]; omega), hsz]
    have : (i + 1) * sz + j - sz = i * sz + j := by rw [Nat.succ_mul]; omega
    rw [this, flat_set hsz x y j v hj hx xs i (by simpa using h)]
theorem own_set {α : Type} {enc : α → List Value} {sz : Nat} {E : TypeId} {w : World} {base g n cap : Nat} {xs : List α} (hsz : ∀ x, (enc x).length = sz) (h : Own E sz enc w base (some ⟨g, 0, none⟩) n cap xs) (i j : Nat) (x y : α) (v : Value) (hi : xs[i]? = some y) (hj : j < sz) (hx : enc x = (enc y).set j v) :
    Own E sz enc (w.setCell ⟨g, i * sz + j, none⟩ v) base (some ⟨g, 0, none⟩) n cap (xs.set i x) ∧ Only (fun k => (some ⟨g, 0, none⟩ : Option Addr) = some ⟨k, 0, none⟩) w (w.setCell ⟨g, i * sz + j, none⟩ v) := by
  have := h.2.stored (i * sz + j) v
  rw [flat_set hsz x y j v hj hx xs i hi] at this
  refine ⟨⟨by rw [List.length_set]; exact h.1, this.1⟩, (grownBy_only this.2).mono fun k _ hk => by injection hk with hk; rw [hk]⟩
theorem own_set2 {w : World} {base g n cap : Nat} {xs : List Run} (h : OwnR w base (some ⟨g, 0, none⟩) n cap xs) (i : Nat) (x y : Run) (hi : xs[i]? = some y) :
    OwnR ((w.setCell ⟨g, i * 2, none⟩ (.slice (some ⟨x.b, x.off, none⟩) x.n x.cap)).setCell ⟨g, i * 2 + 1, none⟩ (.int .i64 x.turn)) base (some ⟨g, 0, none⟩) n cap (xs.set i x) ∧
    Only (fun k => (some ⟨g, 0, none⟩ : Option Addr) = some ⟨k, 0, none⟩) w ((w.setCell ⟨g, i * 2, none⟩ (.slice (some ⟨x.b, x.off, none⟩) x.n x.cap)).setCell ⟨g, i * 2 + 1, none⟩ (.int .i64 x.turn)) := by
  have hlt := (List.getElem?_eq_some_iff.1 hi).1
  have h1 := own_set Run.l_len h i 0 ⟨x.b, x.off, x.n, x.cap, x.xs, y.turn⟩ y (.slice (some ⟨x.b, x.off, none⟩) x.n x.cap) hi (by omega) rfl
  have h2 := own_set Run.l_len h1.1 i 1 x ⟨x.b, x.off, x.n, x.cap, x.xs, y.turn⟩ (.int .i64 x.turn) (by simp [hlt]) (by omega) rfl
  rw [List.set_set] at h2
  exact ⟨h2.1, h1.2.trans h2.2⟩

theorem frozen_of_block {w w' : World} {p : Addr} (h : w'.heap[p.block]? = w.heap[p.block]?) : w'.frozen? p = w.frozen? p := by
  unfold World.frozen?; rw [h]
theorem only_setCell (w : World) (p : Addr) (v : Value) : Only (fun k => k = p.block) w (w.setCell p v) :=
  ⟨rfl, rfl, rfl, by simp, fun k _ hk => heap_setCell_other w p k v hk⟩
theorem only_frozen {S : Nat → Prop} {w w' : World} {p : Addr} (h : Only S w w') (hp : p.block < w.heap.size) (hS : ¬ S p.block) : w'.frozen? p = w.frozen? p := frozen_of_block (h.block _ hp hS)
theorem RunOk.only {w w' : World} {bm : Nat} {A : Option Addr} {r : Run} {S : Nat → Prop} (h : RunOk w bm A r) (ho : Only S w w') (hS : ¬ S r.b) : RunOk w' bm A r :=
  ⟨h.rd.only ho (fun a ha => by injection ha with ha; rw [← ha]; exact hS), h.small, h.room, h.farm, h.farg⟩
/-- The row's own block has turned alone: it holds runs of those that it held. -/
theorem HeapAt.step {w w' : World} {base bm n cap : Nat} {A : Option Addr} {rs rs' : List Run} (h : HeapAt w base bm A n cap rs) (ho : OwnR w' base A n cap rs') (hm : ∀ r ∈ rs', r ∈ rs) (hy : Only (fun k => A = some ⟨k, 0, none⟩) w w') : HeapAt w' base bm A n cap rs' :=
  ⟨hy.cell h.head (fun e => h.sep bm e rfl), (only_frozen hy (lt_of_cell h.head) (fun e => h.sep bm e rfl)).trans h.free, ho, h.below, h.sep, fun r hr => (h.ok r (hm r hr)).only hy (fun e => (h.ok r (hm r hr)).farg r.b e rfl), h.few⟩
theorem HeapAt.later {w w' : World} {base bm n cap : Nat} {A : Option Addr} {rs : List Run} (h : HeapAt w base bm A n cap rs) (hb : Below w.heap.size w w') : HeapAt w' base bm A n cap rs :=
  h.step (h.own.below hb) (fun _ h => h) (hb.only _)

set_option maxHeartbeats 4000000 in
theorem swap_calls (base bm : Nat) (A : Option Addr) (n cap i k : Nat) (rs : List Run) (a b : Run) (w : World) (h : HeapAt w base bm A n cap rs) (hi : i < n) (hk : k < n) (ha : rs[i]? = some a) (hb : rs[k]? = some b) :
    Calls Tryd.prog 82 #[.slice A n cap, .int .i64 i, .int .i64 k] w fun e w' => e = .returned (.tuple #[]) ∧ HeapAt w' base bm A n cap ((rs.set i b).set k a) ∧ Only (fun g => A = some ⟨g, 0, none⟩) w w' := by
  obtain ⟨r, g, h1, rfl, _, _, c0, c1, ok1⟩ := h.get i hi
  obtain ⟨s, g', h2, hg, _, _, d0, d1, ok2⟩ := h.get k hk
  obtain rfl : r = a := Option.some.inj (h1.symm.trans ha)
  obtain rfl : s = b := Option.some.inj (h2.symm.trans hb)
  injection hg with hg
  injection hg with hg _ _
  subst hg
  have hfew := h.few
  have i0 : (0 : Int) ≤ (i : Int) := by omega
  have i1 : (i : Int) < (n : Int) := by omega
  have j0 : (0 : Int) ≤ (k : Int) := by omega
  have j1 : (k : Int) < (n : Int) := by omega
  have hfz : ∀ j, w.frozen? ⟨g, j, none⟩ = false := h.own.2.frozenAt
  have H := Lib.hid h.own
  have HH := Lib.hid h
  have hmem : Hid (∀ q ∈ (rs.set i s).set k r, q ∈ rs) := fun q hq => by
    rcases List.mem_or_eq_of_mem_set hq with hq | rfl
    · rcases List.mem_or_eq_of_mem_set hq with hq | rfl
      · exact hq
      · exact List.mem_of_getElem? hb
    · exact List.mem_of_getElem? ha
  have HA := Lib.hid ha
  have HB := Lib.hid hb
  clear h ha hb h1 h2 ok1 ok2
  by_cases hik : i = k
  · subst hik
    obtain rfl : r = s := Option.some.inj (HA.out.symm.trans HB.out)
    go_enter Tryd.func82, Tryd.ntmps82
    go_wp2
    go_region
    go_end0
    have e1 := own_set2 H.out i r r HA.out
    have e2 := own_set2 e1.1 i r r (by rw [List.getElem?_set]; simp [(List.getElem?_eq_some_iff.1 HA.out).1])
    have ho := (e1.2.trans e2.2).trans ((below_drew1 _).only _)
    exact ⟨rfl, HH.out.step (e2.1.below (below_drew1 _)) hmem.out ho, ho⟩
  · go_enter Tryd.func82, Tryd.ntmps82
    go_wp2
    go_region
    go_end0
    have e1 := own_set2 H.out i s r HA.out
    have e2 := own_set2 e1.1 k r s (by rw [List.getElem?_set, if_neg hik]; exact HB.out)
    have ho := (e1.2.trans e2.2).trans ((below_drew1 _).only _)
    exact ⟨rfl, HH.out.step (e2.1.below (below_drew1 _)) hmem.out ho, ho⟩

theorem flat_take {α : Type} {enc : α → List Value} {sz : Nat} (hsz : ∀ x, (enc x).length = sz) : ∀ (xs : List α) (m : Nat), (xs.flatMap enc).take (m * sz) = (xs.take m).flatMap enc
  | [], m => by simp
  | x :: xs, 0 => by simp
  | x :: xs, m + 1 => by
    rw [List.take_succ_cons, List.flatMap_cons, List.flatMap_cons, List.take_append, hsz, List.take_of_length_le (by rw [hsz, Nat.succ_mul]; omega)]
    have : (m + 1) * sz - sz = m * sz := by rw [Nat.succ_mul]; omega
    rw [this, flat_take hsz xs m]
theorem own_room {α : Type} {enc : α → List Value} {sz : Nat} {E : TypeId} {w : World} {base n cap : Nat} {A : Option Addr} {xs : List α} (h : Own E sz enc w base A n cap xs) : n ≤ cap := by
  obtain ⟨h0, h1, h2 | ⟨g, cap', cur, h3, h4, h5, h6, h7, h8, h9⟩⟩ := h
  · omega
  · injection h3 with e1 e2 e3; omega
/-- What is left of a row, that is used from its beginning to behind m. -/
theorem own_take {α : Type} {enc : α → List Value} {sz : Nat} {E : TypeId} {w : World} {base n cap : Nat} {A : Option Addr} {xs : List α} (hsz : ∀ x, (enc x).length = sz) (h : Own E sz enc w base A n cap xs) (m : Nat) (hm : m ≤ n) : Own E sz enc w base A m cap (xs.take m) := by
  obtain ⟨h0, h1, h2 | ⟨g, cap', cur, h3, h4, h5, h6, h7, h8, h9⟩⟩ := h
  · obtain ⟨h2, h3⟩ := h2
    have hm0 : m = 0 := by omega
    subst hm0
    injection h2 with e1 e2 e3
    subst e1
    subst h3
    exact ⟨by simp, by simp, .inl ⟨by rw [e3], rfl⟩⟩
  · have hl : (xs.take m).length = m := by simp; omega
    refine ⟨hl.symm, by rw [flat_len hsz, hl], .inr ⟨g, cap', cur, ?_, h4, h5, by omega, h7, h8, ?_⟩⟩
    · injection h3 with e1 e2 e3
      rw [e1, e3]
    · have := congrArg (List.take (m * sz)) h9
      rw [List.take_take, Nat.min_eq_left (Nat.mul_le_mul_right _ hm)] at this
      rw [this, flat_take hsz]

set_option maxHeartbeats 4000000 in
theorem rpop_calls (base bm : Nat) (A : Option Addr) (n cap : Nat) (rs : List Run) (w : World) (h : HeapAt w base bm A (n + 1) cap rs) :
    Calls Tryd.prog 83 #[.pointer (some ⟨bm, 0, none⟩)] w fun e w' => (∃ v, e = .returned v) ∧ HeapAt w' base bm A n cap (rs.take n) ∧ Only (fun g => g = bm) w w' := by
  obtain ⟨r, g, h1, rfl, _, _, c0, c1, ok1⟩ := h.get n (by omega)
  have hfew := h.few
  have hh := h.head
  have hf := h.free
  have hbm := lt_of_cell hh
  have hne : bm ≠ w.heap.size := by simp only at hbm; omega
  have hfw : ∀ x, (w.alloc x).cell? ⟨bm, 0, none⟩ = some (.slice (some ⟨g, 0, none⟩) (n + 1) cap) := fun x => below_cell ((Below.refl _ _).alloc (Nat.le_refl _) x) (Nat.le_refl _) hh
  have hff : ∀ x, (w.alloc x).frozen? ⟨bm, 0, none⟩ = false := fun x => (World.frozen?_alloc_old _ _ _ hne).trans hf
  have hroom : n + 1 ≤ cap := own_room h.own
  have hr2 : n ≤ cap := by omega
  have hr3 : (n : Int) ≤ (cap : Int) := by omega
  have H := Lib.hid h
  clear h h1 ok1
  go_enter Tryd.func83, Tryd.ntmps83
  go_wp2
  go_ret
  have hb := (only_setCell w ⟨bm, 0, none⟩ (.slice (some ⟨g, 0, none⟩) n cap)).trans ((Below.only ((Below.refl _ _).alloc (Nat.le_refl _) (.cells #[Value.slice (some ⟨r.b, r.off, none⟩) r.n r.cap, Value.int .i64 r.turn] 57))) _)
  have hlt : bm < (w.setCell ⟨bm, 0, none⟩ (.slice (some ⟨g, 0, none⟩) n cap)).heap.size := by rw [World.size_setCell]; exact hbm
  refine ⟨⟨_, rfl⟩, ⟨?_, ?_, (own_take Run.l_len (H.out.own.only hb (fun g' hg' => H.out.sep g' hg')) n (Nat.le_succ n)), H.out.below, H.out.sep, fun q hq => (H.out.ok q (List.mem_of_mem_take hq)).only hb (fun e => (H.out.ok q (List.mem_of_mem_take hq)).farm e), by omega⟩, hb⟩
  · exact below_cell ((Below.refl _ _).alloc (Nat.le_refl _) _) (Nat.le_refl _) (World.cell?_setCell_same _ _ _ hh)
  · rw [World.frozen?_alloc_old _ _ _ (by simp only; omega), World.frozen?_setCell]; exact hf
end Go.Proofs.YtmabmnkdigdaiaaDoor
