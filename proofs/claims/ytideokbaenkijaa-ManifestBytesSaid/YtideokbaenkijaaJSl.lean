/-
  Slices of structs: what is read of one, one that a call made and appends to, and what a call leaves unturned.
-/
import Derived.Test.YtideokbaenkijaaJRegion
import Derived.Lib.Hide
import Derived.OwnWalk
import Derived.Deep.AppendLies
import Derived.Laws.OwnMore
import Derived.Laws.AppendOwnNone
import Derived.Maps.AppendAt
namespace Go.RowKit
variable {α : Type}

/-- Of what lay in w, only blocks of S may have turned. -/
structure Only (S : Nat → Prop) (w w' : World) : Prop where
  os : w'.os = w.os
  tape : w'.tape = w.tape
  output : w'.output = w.output
  size : w.heap.size ≤ w'.heap.size
  block : ∀ k, k < w.heap.size → ¬ S k → w'.heap[k]? = w.heap[k]?

theorem Only.refl (S : Nat → Prop) (w : World) : Only S w w := ⟨rfl, rfl, rfl, Nat.le_refl _, fun _ _ _ => rfl⟩
theorem Only.trans {S : Nat → Prop} {a b c : World} (h : Only S a b) (k : Only S b c) : Only S a c :=
  ⟨k.os.trans h.os, k.tape.trans h.tape, k.output.trans h.output, Nat.le_trans h.size k.size, fun i hi hS => (k.block i (Nat.lt_of_lt_of_le hi h.size) hS).trans (h.block i hi hS)⟩
/-- A second step may also turn what is new since the first world. -/
theorem Only.trans' {S T : Nat → Prop} {a b c : World} (h : Only S a b) (k : Only T b c) (hT : ∀ i, T i → S i ∨ a.heap.size ≤ i) : Only S a c :=
  ⟨k.os.trans h.os, k.tape.trans h.tape, k.output.trans h.output, Nat.le_trans h.size k.size, fun i hi hS => (k.block i (Nat.lt_of_lt_of_le hi h.size) (fun t => (hT i t).elim hS (fun h => absurd hi (Nat.not_lt.2 h)))).trans (h.block i hi hS)⟩
theorem Only.mono {S T : Nat → Prop} {a b : World} (h : Only S a b) (hST : ∀ i, i < a.heap.size → S i → T i) : Only T a b :=
  ⟨h.os, h.tape, h.output, h.size, fun i hi hT => h.block i hi (fun s => hT (hST i hi s))⟩
theorem Below.only {w w' : World} (h : Below w.heap.size w w') (S : Nat → Prop) : Only S w w' := ⟨h.os, h.tape, h.output, h.size, fun i hi _ => h.block i hi⟩
theorem Only.below {S : Nat → Prop} {B : Nat} {w w' : World} (h : Only S w w') (hB : B ≤ w.heap.size) (hS : ∀ i, S i → B ≤ i) : Below B w w' :=
  ⟨h.os, h.tape, h.output, h.size, fun i hi => h.block i (Nat.lt_of_lt_of_le hi hB) (fun s => absurd hi (Nat.not_lt.2 (hS i s)))⟩
theorem Only.none_below {w w' : World} (h : Only (fun _ => False) w w') : Below w.heap.size w w' := h.below (Nat.le_refl _) (fun _ h => h.elim)
theorem grownBy_only {w w' : World} {row : Option Nat} (h : w.grownBy w' row) : Only (fun k => row = some k) w w' :=
  ⟨h.os, h.tape, h.output, h.size, fun i hi hS => h.block i hi (fun e => hS e.symm)⟩
theorem Only.cell {S : Nat → Prop} {w w' : World} {p : Addr} {v : Value} (h : Only S w w') (hc : w.cell? p = some v) (hS : ¬ S p.block) : w'.cell? p = some v :=
  (World.cell?_of_block (w := w) (h.block p.block (lt_of_cell hc) hS)).trans hc

/-- The slice at A of n elements reads as xs. -/
structure Rd (sz : Nat) (enc : α → List Value) (w : World) (A : Option Addr) (n : Nat) (xs : List α) : Prop where
  len : n = xs.length
  at_ : ∀ i c, xs[i]? = some c → ∃ b off, A = some ⟨b, off, none⟩ ∧ b < w.heap.size ∧ ∀ j v, (enc c)[j]? = some v → w.cell? ⟨b, off + i * sz + j, none⟩ = some v

theorem Rd.nil (sz : Nat) (enc : α → List Value) (w : World) (A : Option Addr) : Rd sz enc w A 0 [] := ⟨rfl, fun i c h => by simp at h⟩
theorem Rd.below {sz : Nat} {enc : α → List Value} {w w' : World} {A : Option Addr} {n : Nat} {xs : List α} (h : Rd sz enc w A n xs) (hb : Below w.heap.size w w') : Rd sz enc w' A n xs :=
  ⟨h.len, fun i c hc => by
    obtain ⟨b, off, h1, h2, h3⟩ := h.at_ i c hc
    exact ⟨b, off, h1, Nat.lt_of_lt_of_le h2 hb.size, fun j v hv => below_cell hb (Nat.le_refl _) (h3 j v hv)⟩⟩
theorem Rd.only {sz : Nat} {enc : α → List Value} {w w' : World} {A : Option Addr} {n : Nat} {xs : List α} {S : Nat → Prop} (h : Rd sz enc w A n xs) (ho : Only S w w') (hS : ∀ a, A = some a → ¬ S a.block) : Rd sz enc w' A n xs :=
  ⟨h.len, fun i c hc => by
    obtain ⟨b, off, h1, h2, h3⟩ := h.at_ i c hc
    exact ⟨b, off, h1, Nat.lt_of_lt_of_le h2 ho.size, fun j v hv => ho.cell (h3 j v hv) (show ¬ S b from hS ⟨b, off, none⟩ h1)⟩⟩
theorem Rd.get {sz : Nat} {enc : α → List Value} {w : World} {A : Option Addr} {n : Nat} {xs : List α} (h : Rd sz enc w A n xs) (i : Nat) (hi : i < n) :
    ∃ c b off, xs[i]? = some c ∧ A = some ⟨b, off, none⟩ ∧ b < w.heap.size ∧ ∀ j v, (enc c)[j]? = some v → w.cell? ⟨b, off + i * sz + j, none⟩ = some v := by
  have hi' : i < xs.length := h.len ▸ hi
  obtain ⟨b, off, h1, h2, h3⟩ := h.at_ i xs[i] (List.getElem?_eq_getElem hi')
  exact ⟨xs[i], b, off, List.getElem?_eq_getElem hi', h1, h2, h3⟩

/-- A slice of the call's own, that reads as xs and may be appended to. -/
def Own (E : TypeId) (sz : Nat) (enc : α → List Value) (w : World) (base : Nat) (A : Option Addr) (n cap : Nat) (xs : List α) : Prop :=
  n = xs.length ∧ w.ownsRow base E sz (.slice A n cap) n (xs.flatMap enc)

theorem Own.nil (E : TypeId) (sz : Nat) (enc : α → List Value) (w : World) (base : Nat) : Own E sz enc w base none 0 0 [] := ⟨rfl, World.ownsRow_nil w base E sz⟩
/-- An empty literal. -/
theorem Own.lit (E : TypeId) (sz : Nat) (enc : α → List Value) (w : World) (base : Nat) (hb : base ≤ w.heap.size) : Own E sz enc (w.alloc (.cells #[] E)) base (some ⟨w.heap.size, 0, none⟩) 0 0 [] :=
  ⟨rfl, by simp, .inr ⟨w.heap.size, 0, #[], rfl, hb, by rw [heap_alloc_new], Nat.le_refl _, by simp, by simp, by simp⟩⟩
theorem Own.shape {E : TypeId} {sz : Nat} {enc : α → List Value} {w : World} {base : Nat} {A : Option Addr} {n cap : Nat} {xs : List α} (h : Own E sz enc w base A n cap xs) :
    (A = none ∧ xs = []) ∨ ∃ g, A = some ⟨g, 0, none⟩ ∧ base ≤ g ∧ g < w.heap.size := by
  obtain ⟨h0, h1, h2 | ⟨g, cap', cur, h3, h4, h5, _⟩⟩ := h
  · obtain ⟨h2, h3⟩ := h2
    injection h2 with h2 _ _
    exact .inl ⟨h2, List.eq_nil_of_length_eq_zero (h0 ▸ h3)⟩
  · injection h3 with h3 _ _
    refine .inr ⟨g, h3, h4, ?_⟩
    rcases Nat.lt_or_ge g w.heap.size with h | h
    · exact h
    · rw [Array.getElem?_eq_none h] at h5; cases h5
theorem Own.only {E : TypeId} {sz : Nat} {enc : α → List Value} {w w' : World} {base : Nat} {A : Option Addr} {n cap : Nat} {xs : List α} {S : Nat → Prop} (h : Own E sz enc w base A n cap xs) (ho : Only S w w') (hS : ∀ g, A = some ⟨g, 0, none⟩ → ¬ S g) : Own E sz enc w' base A n cap xs := by
  obtain ⟨h0, h1, h2 | ⟨g, cap', cur, h3, h4, h5, h6⟩⟩ := h
  · exact ⟨h0, h1, .inl h2⟩
  · have hlt : g < w.heap.size := by
      rcases Nat.lt_or_ge g w.heap.size with h | h
      · exact h
      · rw [Array.getElem?_eq_none h] at h5; cases h5
    have hA : A = some ⟨g, 0, none⟩ := by injection h3
    exact ⟨h0, h1, .inr ⟨g, cap', cur, h3, h4, (ho.block g hlt (hS g hA)).trans h5, h6⟩⟩
theorem Own.below {E : TypeId} {sz : Nat} {enc : α → List Value} {w w' : World} {base : Nat} {A : Option Addr} {n cap : Nat} {xs : List α} (h : Own E sz enc w base A n cap xs) (hb : Below w.heap.size w w') : Own E sz enc w' base A n cap xs :=
  h.only (hb.only (fun _ => False)) (fun _ _ h => h)
theorem Own.lower {E : TypeId} {sz : Nat} {enc : α → List Value} {w : World} {base base' : Nat} {A : Option Addr} {n cap : Nat} {xs : List α} (h : Own E sz enc w base A n cap xs) (hb : base' ≤ base) : Own E sz enc w base' A n cap xs := by
  obtain ⟨h0, h1, h2 | ⟨g, cap', cur, h3, h4, h5⟩⟩ := h
  · exact ⟨h0, h1, .inl h2⟩
  · exact ⟨h0, h1, .inr ⟨g, cap', cur, h3, Nat.le_trans hb h4, h5⟩⟩

theorem flat_at {enc : α → List Value} {sz : Nat} (hsz : ∀ x, (enc x).length = sz) : ∀ (xs : List α) (i j : Nat) (c : α) (v : Value), xs[i]? = some c → (enc c)[j]? = some v → (xs.flatMap enc)[i * sz + j]? = some v
  | [], i, j, c, v, h, _ => by simp at h
  | x :: xs, 0, j, c, v, h, hv => by
    simp at h; subst h
    rw [List.flatMap_cons, Nat.zero_mul, Nat.zero_add, List.getElem?_append_left (by
      have := (List.getElem?_eq_some_iff.1 hv).1; exact this)]
    exact hv
  | x :: xs, i + 1, j, c, v, h, hv => by
    rw [List.flatMap_cons, List.getElem?_append_right (by rw [hsz, Nat.succ_mul]; omega), hsz]
    have : (i + 1) * sz + j - sz = i * sz + j := by rw [Nat.succ_mul]; omega
    rw [this]
    exact flat_at hsz xs i j c v (by simpa using h) hv
theorem flat_len {enc : α → List Value} {sz : Nat} (hsz : ∀ x, (enc x).length = sz) : ∀ (xs : List α), (xs.flatMap enc).length = xs.length * sz
  | [] => by simp
  | x :: xs => by rw [List.flatMap_cons, List.length_append, hsz, flat_len hsz xs, List.length_cons, Nat.succ_mul]; omega

theorem Own.rd {E : TypeId} {sz : Nat} {enc : α → List Value} {w : World} {base : Nat} {A : Option Addr} {n cap : Nat} {xs : List α} (hsz : ∀ x, (enc x).length = sz) (h : Own E sz enc w base A n cap xs) : Rd sz enc w A n xs := by
  refine ⟨h.1, fun i c hc => ?_⟩
  rcases h.shape with ⟨_, hx⟩ | ⟨g, hA, _, hg⟩
  · rw [hx] at hc; simp at hc
  · subst hA
    refine ⟨g, 0, rfl, hg, fun j v hv => ?_⟩
    have hlt : i * sz + j < n * sz := by
      have h1 : i < xs.length := (List.getElem?_eq_some_iff.1 hc).1
      have h2 : j < (enc c).length := (List.getElem?_eq_some_iff.1 hv).1
      rw [hsz] at h2
      rw [h.1]
      calc i * sz + j < i * sz + sz := by omega
        _ = (i + 1) * sz := by rw [Nat.succ_mul]
        _ ≤ xs.length * sz := Nat.mul_le_mul_right _ h1
    have := h.2.cellAt (i * sz + j) hlt
    rw [Nat.zero_add, this]
    exact flat_at hsz xs i j c v hc hv

/-- append(out, x) of one element that lies in a block of its own. -/
theorem append_one {P : Program} {w : World} {ops : Array Oper} {rest : List Oper} {o : Oper} {a : Act} {Q : Exit → Act → World → Prop} {E : TypeId} {sz : Nat} {enc : α → List Value} (hgd : o.guard = none) (s x : Operand) (t : TypeId)
    (ho : o.op = .call { callee := .builtin .append, args := #[s, x], argTypes := #[t, t] })
    (i : TypeInfo) (z : Value) (bytes : Nat) (ht : P.underlying t = some (.slice E)) (hi : P.info? E = some i) (hz : i.zero = some z)
    (hsize : i.size = sz) (hby : i.bytes = bytes) (hzs : z.cells.size = sz) (hsz0 : 0 < sz) (hsz : ∀ x, (enc x).length = sz)
    {base n cap nb : Nat} {A : Option Addr} {xs : List α} {c : α} (hs : a.eval s = .slice A n cap) (hown : Own E sz enc w base A n cap xs)
    (hx : a.eval x = .slice (some ⟨nb, 0, none⟩) 1 1) (hnb : ∀ j u, (enc c)[j]? = some u → w.cell? ⟨nb, j, none⟩ = some u) (h1 : ∀ u ∈ enc c, u.oneCell' = true)
    (hbig : (n + 1) * bytes ≤ 140737488355328) (h63 : n + 1 ≤ maxLen) (hbase : base ≤ w.heap.size)
    (h : ∀ g cap' w', Own E sz enc w' base (some ⟨g, 0, none⟩) (n + 1) cap' (xs ++ [c]) → Only (fun k => A = some ⟨k, 0, none⟩) w w' → (A = some ⟨g, 0, none⟩ ∨ w.heap.size ≤ g) → g < w'.heap.size →
      wpList P ops Q rest (a.put o.dst (.slice (some ⟨g, 0, none⟩) (n + 1) cap')) w') : wpList P ops Q (o :: rest) a w := by
  refine wpList_append_lies w hgd s x t ho base E i z sz bytes ht hi hz hsize hby hzs hsz0 _ n (xs.flatMap enc) hs hown.2 ⟨nb, 0, none⟩ 1 1 (enc c) hx (by rw [hsz, Nat.one_mul]) (fun j u hj => ?_) h1 (by omega) h63 hbig hbase _ rfl ?_
  · have := hnb j u hj
    unfold Addr.add
    split
    · rename_i h0; rw [h0] at this; exact this
    · simpa using this
  · intro g cap' w' hown' hgrow hat hlt
    refine h g cap' w' ⟨by simp [hown.1], by rw [List.flatMap_append, List.flatMap_singleton]; exact hown'⟩ ((grownBy_only hgrow).mono fun k _ hk => ?_) ?_ hlt
    · rcases hown.shape with ⟨hA, _⟩ | ⟨g', hA, _⟩
      · rw [hA] at hk; cases hk
      · rw [hA] at hk ⊢; simp only [Value.ownBlock, Option.some.injEq] at hk; rw [hk]
    · rcases hat with hat | hat
      · left
        rcases hown.shape with ⟨hA, _⟩ | ⟨g', hA, _⟩
        · rw [hA] at hat; cases hat
        · rw [hA] at hat ⊢; simp only [Value.ownBlock, Option.some.injEq] at hat; rw [hat]
      · right; omega

/-- .. as a step of a region that draws. -/
theorem step_append_one {P : Program} {w : World} {ops : Array Oper} {o : Oper} {a : Act} {K : Act → World → Prop} {Q : Exit → Act → World → Prop} {E' : Prop} {E : TypeId} {sz : Nat} {enc : α → List Value} (hgd : o.guard = none) (s x : Operand) (t : TypeId)
    (ho : o.op = .call { callee := .builtin .append, args := #[s, x], argTypes := #[t, t] })
    (i : TypeInfo) (z : Value) (bytes : Nat) (ht : P.underlying t = some (.slice E)) (hi : P.info? E = some i) (hz : i.zero = some z)
    (hsize : i.size = sz) (hby : i.bytes = bytes) (hzs : z.cells.size = sz) (hsz0 : 0 < sz) (hsz : ∀ x, (enc x).length = sz)
    {base n cap nb : Nat} {A : Option Addr} {xs : List α} {c : α} (hs : a.eval s = .slice A n cap) (hown : Own E sz enc w base A n cap xs)
    (hx : a.eval x = .slice (some ⟨nb, 0, none⟩) 1 1) (hnb : ∀ j u, (enc c)[j]? = some u → w.cell? ⟨nb, j, none⟩ = some u) (h1 : ∀ u ∈ enc c, u.oneCell' = true)
    (hbig : (n + 1) * bytes ≤ 140737488355328) (h63 : n + 1 ≤ maxLen) (hbase : base ≤ w.heap.size)
    (h : ∀ g cap' w', Own E sz enc w' base (some ⟨g, 0, none⟩) (n + 1) cap' (xs ++ [c]) → Only (fun k => A = some ⟨k, 0, none⟩) w w' → (A = some ⟨g, 0, none⟩ ∨ w.heap.size ≤ g) → g < w'.heap.size →
      K (a.put o.dst (.slice (some ⟨g, 0, none⟩) (n + 1) cap')) w') : if Region.wanted o (yielded ops a.tmps) = true then Oper.wp P o a w K Q else E' := by
  refine step_append_lies w hgd s x t ho base E i z sz bytes ht hi hz hsize hby hzs hsz0 _ n (xs.flatMap enc) hs hown.2 ⟨nb, 0, none⟩ 1 1 (enc c) hx (by rw [hsz, Nat.one_mul]) (fun j u hj => ?_) h1 (by omega) h63 hbig hbase _ rfl ?_
  · have := hnb j u hj
    unfold Addr.add
    split
    · rename_i h0; rw [h0] at this; exact this
    · simpa using this
  · intro g cap' w' hown' hgrow hat hlt
    refine h g cap' w' ⟨by simp [hown.1], by rw [List.flatMap_append, List.flatMap_singleton]; exact hown'⟩ ((grownBy_only hgrow).mono fun k _ hk => ?_) ?_ hlt
    · rcases hown.shape with ⟨hA, _⟩ | ⟨g', hA, _⟩
      · rw [hA] at hk; cases hk
      · rw [hA] at hk ⊢; simp only [Value.ownBlock, Option.some.injEq] at hk; rw [hk]
    · rcases hat with hat | hat
      · left
        rcases hown.shape with ⟨hA, _⟩ | ⟨g', hA, _⟩
        · rw [hA] at hat; cases hat
        · rw [hA] at hat ⊢; simp only [Value.ownBlock, Option.some.injEq] at hat; rw [hat]
      · right; omega

theorem flat_back {enc : α → List Value} {sz : Nat} (hsz : ∀ x, (enc x).length = sz) : ∀ (xs : List α) (j : Nat) (v : Value), (xs.flatMap enc)[j]? = some v → ∃ i r c, xs[i]? = some c ∧ (enc c)[r]? = some v ∧ j = i * sz + r
  | [], j, v, h => by simp at h
  | x :: xs, j, v, h => by
    rw [List.flatMap_cons] at h
    by_cases hj : j < (enc x).length
    · rw [List.getElem?_append_left hj] at h
      exact ⟨0, j, x, rfl, h, by omega⟩
    · rw [List.getElem?_append_right (by omega), hsz] at h
      obtain ⟨i, r, c, h1, h2, h3⟩ := flat_back hsz xs _ v h
      rw [hsz] at hj
      exact ⟨i + 1, r, c, h1, h2, by rw [Nat.succ_mul]; omega⟩

/-- append(out, l...). -/
theorem append_all {P : Program} {w : World} {ops : Array Oper} {rest : List Oper} {o : Oper} {a : Act} {Q : Exit → Act → World → Prop} {E : TypeId} {sz : Nat} {enc : α → List Value} (hgd : o.guard = none) (s x : Operand) (t : TypeId)
    (ho : o.op = .call { callee := .builtin .append, args := #[s, x], argTypes := #[t, t] })
    (i : TypeInfo) (z : Value) (bytes : Nat) (ht : P.underlying t = some (.slice E)) (hi : P.info? E = some i) (hz : i.zero = some z)
    (hsize : i.size = sz) (hby : i.bytes = bytes) (hzs : z.cells.size = sz) (hsz0 : 0 < sz) (hsz : ∀ x, (enc x).length = sz) (h1 : ∀ x, ∀ u ∈ enc x, u.oneCell' = true)
    {base n cap m cm : Nat} {A B : Option Addr} {xs ys : List α} (hs : a.eval s = .slice A n cap) (hown : Own E sz enc w base A n cap xs)
    (hx : a.eval x = .slice B m cm) (hB : B = none → cm = 0) (hy : Rd sz enc w B m ys)
    (hbig : (n + m) * bytes ≤ 140737488355328) (h63 : n + m ≤ maxLen) (hbase : base ≤ w.heap.size)
    (h : ∀ A' cap' w', Own E sz enc w' base A' (n + m) cap' (xs ++ ys) → Only (fun k => A = some ⟨k, 0, none⟩) w w' → (∀ g, A' = some ⟨g, 0, none⟩ → A = some ⟨g, 0, none⟩ ∨ w.heap.size ≤ g) → (A' = none → A = none) →
      wpList P ops Q rest (a.put o.dst (.slice A' (n + m) cap')) w') : wpList P ops Q (o :: rest) a w := by
  cases B with
  | none =>
    have hm0 : m = 0 := by
      cases m with
      | zero => rfl
      | succ m =>
        obtain ⟨c, b, off, _, h2, _⟩ := hy.get 0 (by omega)
        cases h2
    subst hm0
    obtain rfl := hB rfl
    obtain rfl : ys = [] := List.eq_nil_of_length_eq_zero hy.len.symm
    refine wpList_append_own_none hgd s x t ho base E i sz ht hi _ n (xs.flatMap enc) hs hown.2 hx ?_
    have := h A cap w (by rw [List.append_nil, Nat.add_zero]; exact hown) (Only.refl _ _) (fun g hg => .inl hg) (fun h => h)
    rwa [Nat.add_zero] at this
  | some ad =>
    refine wpList_append_own_at w hgd s x t ho base E i z sz bytes ht hi hz hsize hby hzs hsz0 _ n (xs.flatMap enc) hs hown.2 ad m cm (ys.flatMap enc) hx (by rw [flat_len hsz, hy.len]) (fun j u hj => ?_) (fun u hu => ?_) h63 hbig hbase ?_
    · obtain ⟨i, r, c, h2, h3, rfl⟩ := flat_back hsz ys j u hj
      obtain ⟨b, off, h4, _, h5⟩ := hy.at_ i c h2
      injection h4 with h4
      subst h4
      have := h5 r u h3
      unfold Addr.add
      split
      · rename_i h0
        have e : off + i * sz + r = off := by omega
        rw [e] at this; exact this
      · have e : off + i * sz + r = off + (i * sz + r) := by omega
        rw [e] at this; exact this
    · obtain ⟨c, _, hc⟩ := List.mem_flatMap.1 hu
      exact h1 c u hc
    · intro v' w' hown' hgrow hnil hat
      have hform : ∃ A' cap', v' = .slice A' (n + m) cap' ∧ (A' = none ∨ ∃ g, A' = some ⟨g, 0, none⟩) := by
        rcases hown'.2 with ⟨h2, h3⟩ | ⟨g, cap', cur, h2, _⟩
        · exact ⟨none, 0, by rw [h2, h3], .inl rfl⟩
        · exact ⟨_, cap', h2, .inr ⟨g, rfl⟩⟩
      obtain ⟨A', cap', rfl, hA'⟩ := hform
      refine h A' cap' w' ⟨by rw [List.length_append, hown.1, hy.len], by rw [List.flatMap_append]; exact hown'⟩ ((grownBy_only hgrow).mono fun k _ hk => ?_) (fun g hg => ?_) (fun hn => ?_)
      · rcases hown.shape with ⟨hA, _⟩ | ⟨g', hA, _⟩
        · rw [hA] at hk; cases hk
        · rw [hA] at hk ⊢; simp only [Value.ownBlock, Option.some.injEq] at hk; rw [hk]
      · subst hg
        rcases hat with hat | hat
        · left
          rcases hown.shape with ⟨hA, _⟩ | ⟨g', hA, _⟩
          · rw [hA] at hat; cases hat
          · rw [hA] at hat ⊢; simp only [Value.ownBlock, Option.some.injEq] at hat; rw [hat]
        · right; simp only [Value.ownBlock, Option.some.injEq] at hat; omega
      · subst hn
        have h2 := hown'.2
        rcases h2 with ⟨h2, h3⟩ | ⟨g, cap', cur, h2, _⟩
        · have := (hnil.1 h2).1
          injection this
        · injection h2 with h2; cases h2
end Go.RowKit
