/-
  What slices.symMergeCmpFunc, insertionSortCmpFunc and stableCmpFunc do, in plain Lean.
-/
import Derived.Test.YtndmlldaebdnmaaDoorWRotP
namespace Go.Proofs.YtndmlldaebdnmaaDoor
open Go.RowKit

theorem mounts_get {l : List Cell} (h : Mounts l) {i j : Nat} {x y : Cell} (hx : l[i]? = some x) (hy : l[j]? = some y) (hij : i ≤ j) : x.order y ≤ 0 := by
  rcases Nat.lt_or_eq_of_le hij with h1 | h1
  · obtain ⟨hi, rfl⟩ := List.getElem?_eq_some_iff.1 hx
    obtain ⟨hj, rfl⟩ := List.getElem?_eq_some_iff.1 hy
    exact List.pairwise_iff_getElem.1 h i j hi hj h1
  · subst h1
    rw [hx] at hy
    injection hy with hy
    subst hy
    rw [order_is.refl]
    exact Int.le_refl _
theorem mem_take_get {l : List Cell} {n : Nat} {y : Cell} (h : y ∈ l.take n) : ∃ k, k < n ∧ l[k]? = some y := by
  obtain ⟨k, hk⟩ := List.mem_iff_getElem?.1 h
  rw [List.getElem?_take] at hk
  split at hk
  · exact ⟨k, by assumption, hk⟩
  · cases hk
theorem mem_drop_get {l : List Cell} {n : Nat} {y : Cell} (h : y ∈ l.drop n) : ∃ k, n ≤ k ∧ l[k]? = some y := by
  obtain ⟨k, hk⟩ := List.mem_iff_getElem?.1 h
  rw [List.getElem?_drop] at hk
  exact ⟨n + k, by omega, hk⟩
theorem get_lt {l : List Cell} {k : Nat} {y : Cell} (h : l[k]? = some y) : k < l.length := (List.getElem?_eq_some_iff.1 h).1
theorem get_some {l : List Cell} {k : Nat} (h : k < l.length) : ∃ y, l[k]? = some y := ⟨l[k], List.getElem?_eq_getElem h⟩

/-- The search of one cell's place in a sorted row, that lies from m on. -/
structure SymI (B : List Cell) (x : Cell) (m i j : Nat) : Prop where
  mi : m ≤ i
  ij : i ≤ j
  jb : j ≤ m + B.length
  low : ∀ k y, B[k]? = some y → m + k < i → y.order x < 0
  high : ∀ k y, B[k]? = some y → j ≤ m + k → ¬ y.order x < 0
theorem SymI.start (B : List Cell) (x : Cell) (m : Nat) : SymI B x m m (m + B.length) :=
  ⟨Nat.le_refl _, by omega, Nat.le_refl _, fun k y _ h => by omega, fun k y hy h => by have := get_lt hy; omega⟩
theorem SymI.up {B : List Cell} {x : Cell} {m i j h : Nat} {z : Cell} (s : SymI B x m i j) (hB : Mounts B) (h1 : i ≤ h) (h2 : h < j) (hz : B[h - m]? = some z) (hlt : z.order x < 0) : SymI B x m (h + 1) j :=
  ⟨by have := s.mi; omega, h2, s.jb, fun k y hy hk => order_lt_of_le_lt (mounts_get hB hy hz (by omega)) hlt, s.high⟩
theorem SymI.down {B : List Cell} {x : Cell} {m i j h : Nat} {z : Cell} (s : SymI B x m i j) (hB : Mounts B) (h1 : i ≤ h) (h2 : h < j) (hz : B[h - m]? = some z) (hge : ¬ z.order x < 0) : SymI B x m i h :=
  ⟨s.mi, h1, by have := s.jb; omega, s.low, fun k y hy hk hn => hge (order_lt_of_le_lt (mounts_get hB hz hy (by omega)) hn)⟩
theorem SymI.done {B : List Cell} {x : Cell} {m i : Nat} (s : SymI B x m i i) (hB : Mounts B) : Merges [x] B (B.take (i - m) ++ x :: B.drop (i - m)) := by
  have := Merges.left_one (x := x) (B1 := B.take (i - m)) (B2 := B.drop (i - m)) (by rw [List.take_append_drop]; exact hB) (fun y hy => by
    obtain ⟨k, h1, h2⟩ := mem_take_get hy
    exact s.low k y h2 (by have := s.mi; omega)) (fun y hy => by
    obtain ⟨k, h1, h2⟩ := mem_drop_get hy
    exact s.high k y h2 (by have := s.mi; omega))
  rwa [List.take_append_drop] at this

/-- .. from the other side: behind all that aren't above. -/
structure SymJ (A : List Cell) (y : Cell) (a i j : Nat) : Prop where
  ai : a ≤ i
  ij : i ≤ j
  jm : j ≤ a + A.length
  low : ∀ k x, A[k]? = some x → a + k < i → ¬ y.order x < 0
  high : ∀ k x, A[k]? = some x → j ≤ a + k → y.order x < 0
theorem SymJ.start (A : List Cell) (y : Cell) (a : Nat) : SymJ A y a a (a + A.length) :=
  ⟨Nat.le_refl _, by omega, Nat.le_refl _, fun k y _ h => by omega, fun k y hy h => by have := get_lt hy; omega⟩
theorem SymJ.up {A : List Cell} {y : Cell} {a i j h : Nat} {z : Cell} (s : SymJ A y a i j) (hA : Mounts A) (h1 : i ≤ h) (h2 : h < j) (hz : A[h - a]? = some z) (hge : ¬ y.order z < 0) : SymJ A y a (h + 1) j :=
  ⟨by have := s.ai; omega, h2, s.jm, fun k x hx hk hn => hge (order_lt_of_lt_le hn (mounts_get hA hx hz (by omega))), s.high⟩
theorem SymJ.down {A : List Cell} {y : Cell} {a i j h : Nat} {z : Cell} (s : SymJ A y a i j) (hA : Mounts A) (h1 : i ≤ h) (h2 : h < j) (hz : A[h - a]? = some z) (hlt : y.order z < 0) : SymJ A y a i h :=
  ⟨s.ai, h1, by have := s.jm; omega, s.low, fun k x hx hk => order_lt_of_lt_le hlt (mounts_get hA hz hx (by omega))⟩
theorem SymJ.done {A : List Cell} {y : Cell} {a i : Nat} (s : SymJ A y a i i) (hA : Mounts A) : Merges A [y] (A.take (i - a) ++ y :: A.drop (i - a)) := by
  have := Merges.right_one (y := y) (A1 := A.take (i - a)) (A2 := A.drop (i - a)) (by rw [List.take_append_drop]; exact hA) (fun x hx => by
    obtain ⟨k, h1, h2⟩ := mem_take_get hx
    exact s.low k x h2 (by have := s.ai; omega)) (fun x hx => by
    obtain ⟨k, h1, h2⟩ := mem_drop_get hx
    exact s.high k x h2 (by have := s.ai; omega))
  rwa [List.take_append_drop] at this

/-- The search of the cut: A lies from a on, B from m on; q is the sum of the middle and m. -/
structure SymK (A B : List Cell) (a m s0 r0 q s r : Nat) : Prop where
  s0s : s0 ≤ s
  sr : s ≤ r
  rr0 : r ≤ r0
  low : ∀ c x y, A[c - a]? = some x → B[q - 1 - c - m]? = some y → s0 ≤ c → c < s → ¬ y.order x < 0
  high : ∀ c x y, A[c - a]? = some x → B[q - 1 - c - m]? = some y → r ≤ c → c < r0 → y.order x < 0
theorem SymK.start (A B : List Cell) (a m s0 r0 q : Nat) (h : s0 ≤ r0) : SymK A B a m s0 r0 q s0 r0 :=
  ⟨Nat.le_refl _, h, Nat.le_refl _, fun c x y _ _ h1 h2 => by omega, fun c x y _ _ h1 h2 => by omega⟩
theorem SymK.up {A B : List Cell} {a m s0 r0 q s r c : Nat} {x y : Cell} (h : SymK A B a m s0 r0 q s r) (hA : Mounts A) (hB : Mounts B) (h1 : s ≤ c) (h2 : c < r) (hx : A[c - a]? = some x) (hy : B[q - 1 - c - m]? = some y) (hge : ¬ y.order x < 0) : SymK A B a m s0 r0 q (c + 1) r := by
  refine ⟨by have := h.s0s; omega, h2, h.rr0, fun d u v hu hv hd1 hd2 hn => hge ?_, h.high⟩
  have e1 : u.order x ≤ 0 := mounts_get hA hu hx (by omega)
  have e2 : y.order v ≤ 0 := mounts_get hB hy hv (by omega)
  exact order_lt_of_lt_le (order_lt_of_le_lt e2 hn) e1
theorem SymK.down {A B : List Cell} {a m s0 r0 q s r c : Nat} {x y : Cell} (h : SymK A B a m s0 r0 q s r) (hA : Mounts A) (hB : Mounts B) (h1 : s ≤ c) (h2 : c < r) (hx : A[c - a]? = some x) (hy : B[q - 1 - c - m]? = some y) (hlt : y.order x < 0) : SymK A B a m s0 r0 q s c := by
  refine ⟨h.s0s, h1, by have := h.rr0; omega, h.low, fun d u v hu hv hd1 hd2 => ?_⟩
  have e1 : x.order u ≤ 0 := mounts_get hA hx hu (by omega)
  have e2 : v.order y ≤ 0 := mounts_get hB hv hy (by omega)
  exact order_lt_of_lt_le (order_lt_of_le_lt e2 hlt) e1
/-- The cut: what is made one of both parts is all made one. -/
theorem SymK.done {A B : List Cell} {a m b mid q s0 r0 s i j : Nat} (h : SymK A B a m s0 r0 q s s) (hA : Mounts A) (hB : Mounts B) (hm : m = a + A.length) (hb : b = m + B.length) (hq : q = mid + m) (h0 : s0 = max a (q - b)) (hr : r0 = min m mid) (hi : i = s - a) (hj : j = mid - s) {R1 R2 : List Cell}
    (h1 : Merges (A.take i) (B.take j) R1) (h2 : Merges (A.drop i) (B.drop j) R2) : Merges A B (R1 ++ R2) := by
  have hs1 := h.s0s
  have hs2 := h.rr0
  have := Merges.cross (A1 := A.take i) (A2 := A.drop i) (B1 := B.take j) (B2 := B.drop j) (by rw [List.take_append_drop]; exact hA) (by rw [List.take_append_drop]; exact hB) (fun x hx y hy => by
    obtain ⟨k, k1, k2⟩ := mem_drop_get hx
    obtain ⟨l, l1, l2⟩ := mem_take_get hy
    have k3 := get_lt k2
    have l3 := get_lt l2
    obtain ⟨u, hu⟩ := get_some (l := A) (k := s - a) (by omega)
    obtain ⟨v, hv⟩ := get_some (l := B) (k := q - 1 - s - m) (by omega)
    have e := h.high s u v hu hv (Nat.le_refl _) (by omega)
    exact order_lt_of_lt_le (order_lt_of_le_lt (mounts_get hB l2 hv (by omega)) e) (mounts_get hA hu k2 (by omega))) (fun x hx y hy => by
    obtain ⟨k, k1, k2⟩ := mem_take_get hx
    obtain ⟨l, l1, l2⟩ := mem_drop_get hy
    have k3 := get_lt k2
    have l3 := get_lt l2
    obtain ⟨u, hu⟩ := get_some (l := A) (k := s - 1 - a) (by omega)
    obtain ⟨v, hv⟩ := get_some (l := B) (k := q - 1 - (s - 1) - m) (by omega)
    have e := h.low (s - 1) u v hu hv (by omega) (by omega)
    have e1 : u.order v ≤ 0 := by have := order_is.anti u v; omega
    exact order_le_trans (mounts_get hA k2 hu (by omega)) (order_le_trans e1 (mounts_get hB hv l2 (by omega)))) h1 h2
  rwa [List.take_append_drop, List.take_append_drop] at this

/-- A cell goes one place to the right. -/
theorem swap_right (L B R : List Cell) (x : Cell) (p k : Nat) (hk : k = L.length + p) (hp : p < B.length) : swapC (L ++ (B.take p ++ x :: B.drop p) ++ R) k (k + 1) = L ++ (B.take (p + 1) ++ x :: B.drop (p + 1)) ++ R := by
  have e1 : B.drop p = B[p] :: B.drop (p + 1) := List.drop_eq_getElem_cons hp
  have e2 : B.take (p + 1) = B.take p ++ [B[p]] := by rw [List.take_add_one, List.getElem?_eq_getElem hp]; rfl
  have := swaps_parts (L ++ B.take p) [x] [] [B[p]] (B.drop (p + 1) ++ R) k (k + 1) 1 (by simp; omega) (by simp; omega) rfl rfl
  have h1 : swapsC (L ++ B.take p ++ [x] ++ [] ++ [B[p]] ++ (B.drop (p + 1) ++ R)) k (k + 1) 1 = swapC (L ++ B.take p ++ [x] ++ [] ++ [B[p]] ++ (B.drop (p + 1) ++ R)) k (k + 1) := rfl
  rw [h1] at this
  rw [e1, e2]
  simp only [List.append_assoc, List.append_nil, List.nil_append, List.cons_append] at this ⊢
  exact this
/-- .. and to the left. -/
theorem swap_left (L A R : List Cell) (y : Cell) (p k : Nat) (hk : k = L.length + p) (hp : p < A.length) : swapC (L ++ (A.take (p + 1) ++ y :: A.drop (p + 1)) ++ R) (k + 1) k = L ++ (A.take p ++ y :: A.drop p) ++ R := by
  have e1 : A.drop p = A[p] :: A.drop (p + 1) := List.drop_eq_getElem_cons hp
  have e2 : A.take (p + 1) = A.take p ++ [A[p]] := by rw [List.take_add_one, List.getElem?_eq_getElem hp]; rfl
  have := swaps_parts (L ++ A.take p) [A[p]] [] [y] (A.drop (p + 1) ++ R) k (k + 1) 1 (by simp; omega) (by simp; omega) rfl rfl
  have h1 : swapsC (L ++ A.take p ++ [A[p]] ++ [] ++ [y] ++ (A.drop (p + 1) ++ R)) k (k + 1) 1 = swapC (L ++ A.take p ++ [A[p]] ++ [] ++ [y] ++ (A.drop (p + 1) ++ R)) k (k + 1) := rfl
  rw [h1] at this
  rw [e1, e2]
  have hc : ∀ (zs : List Cell), k + 1 < zs.length → swapC zs (k + 1) k = swapC zs k (k + 1) := fun zs hz => by
    unfold swapC
    apply List.ext_getElem?
    intro t
    simp only [List.getElem?_set, List.length_set]
    by_cases t1 : k = t
    · subst t1
      rw [if_pos rfl, if_neg (by omega : ¬ k + 1 = k), if_pos rfl]
    · rw [if_neg t1]
      by_cases t2 : k + 1 = t
      · subst t2
        rw [if_pos rfl, if_pos rfl]
      · rw [if_neg t2, if_neg t2, if_neg t1]
  rw [hc _ (by simp; omega)]
  simp only [List.append_assoc, List.append_nil, List.nil_append, List.cons_append] at this ⊢
  exact this

/-- A part of so many cells. -/
def chunk (bs k : Nat) (l : List Cell) : List Cell := (l.drop (k * bs)).take bs
theorem chunk_two (bs k : Nat) (l : List Cell) : chunk (2 * bs) k l = chunk bs (2 * k) l ++ chunk bs (2 * k + 1) l := by
  unfold chunk
  have e1 : 2 * k * bs = k * (2 * bs) := by rw [Nat.mul_comm 2 k, Nat.mul_assoc]
  have e2 : (2 * k + 1) * bs = k * (2 * bs) + bs := by rw [Nat.succ_mul, e1]
  rw [e1, e2, ← List.drop_drop, Nat.two_mul, List.take_add]
theorem Sorts.nil : Sorts [] [] := ⟨List.Pairwise.nil, fun _ => rfl⟩
theorem Sorts.one (x : Cell) : Sorts [x] [x] := ⟨mounts_one x, fun _ => rfl⟩
theorem chunk_nil {bs k : Nat} {l : List Cell} (h : l.length ≤ k * bs) : chunk bs k l = [] := by unfold chunk; rw [List.drop_eq_nil_of_le h, List.take_nil]
/-- Each part is sorted. -/
structure Chunks (bs : Nat) (l X : List Cell) : Prop where
  len : X.length = l.length
  each : ∀ k, Sorts (chunk bs k l) (chunk bs k X)
theorem Chunks.whole {bs : Nat} {l X : List Cell} (h : Chunks bs l X) (hb : l.length ≤ bs) : Sorts l X := by
  have := h.each 0
  unfold chunk at this
  rw [Nat.zero_mul, List.drop_zero, List.drop_zero, List.take_of_length_le hb, List.take_of_length_le (by rw [h.len]; exact hb)] at this
  exact this
/-- The first k parts are sorted, the others are as they were. -/
structure ChunksTo (bs k : Nat) (l X0 X : List Cell) : Prop where
  len : X.length = l.length
  each : ∀ t, t < k → Sorts (chunk bs t l) (chunk bs t X)
  rest : X.drop (k * bs) = X0.drop (k * bs)
theorem ChunksTo.start (bs : Nat) {l X0 : List Cell} (h : X0.length = l.length) : ChunksTo bs 0 l X0 X0 := ⟨h, fun t ht => by omega, rfl⟩
theorem chunk_app_lt {bs t k : Nat} {L Y : List Cell} (hL : L.length = k * bs) (ht : t < k) : chunk bs t (L ++ Y) = chunk bs t L := by
  unfold chunk
  have h1 : t * bs + bs ≤ L.length := by
    rw [hL, ← Nat.succ_mul]; exact Nat.mul_le_mul_right _ ht
  rw [List.drop_append_of_le_length (by omega), List.take_append_of_le_length (by rw [List.length_drop]; omega)]
/-- One part more. -/
theorem ChunksTo.step {bs k : Nat} {l X0 L Y Y' R : List Cell} (h : ChunksTo bs k l X0 (L ++ Y ++ R)) (hL : L.length = k * bs) (hY : Y.length = bs ∨ (Y.length ≤ bs ∧ R = [])) (hl : Y'.length = Y.length) (hs : Sorts (chunk bs k l) Y') : ChunksTo bs (k + 1) l X0 (L ++ Y' ++ R) := by
  refine ⟨by have := h.len; simp only [List.length_append] at this ⊢; omega, fun t ht => ?_, ?_⟩
  · rcases Nat.lt_or_eq_of_le (Nat.le_of_lt_succ ht) with h1 | h1
    · have := h.each t h1
      rw [List.append_assoc, chunk_app_lt hL h1] at this ⊢
      exact this
    · subst h1
      have : chunk bs t (L ++ Y' ++ R) = Y' := by
        unfold chunk
        rw [List.append_assoc, ← hL, List.drop_left]
        rcases hY with hY | ⟨hY, rfl⟩
        · rw [List.take_append_of_le_length (by omega), List.take_of_length_le (by omega)]
        · rw [List.append_nil, List.take_of_length_le (by omega)]
      rw [this]
      exact hs
  · have hr := h.rest
    have e : (k + 1) * bs = k * bs + bs := Nat.succ_mul _ _
    rw [e, ← List.drop_drop, ← List.drop_drop, ← hr, List.append_assoc, List.append_assoc, ← hL, List.drop_left, List.drop_left]
    rcases hY with hY | ⟨hY, rfl⟩
    · rw [← hY, List.drop_left, ← hl, List.drop_left]
    · rw [List.append_nil, List.append_nil, List.drop_eq_nil_of_le (by omega), List.drop_eq_nil_of_le (by omega)]
theorem ChunksTo.done {bs k : Nat} {l X0 X : List Cell} (h : ChunksTo bs k l X0 X) (hk : l.length ≤ k * bs) : Chunks bs l X := by
  refine ⟨h.len, fun t => ?_⟩
  by_cases ht : t < k
  · exact h.each t ht
  · have : l.length ≤ t * bs := Nat.le_trans hk (Nat.mul_le_mul_right _ (by omega))
    rw [chunk_nil this, chunk_nil (by rw [h.len]; exact this)]
    exact Sorts.nil
/-- Two neighbours that are sorted, made one. -/
theorem Chunks.two {bs k : Nat} {l X0 M : List Cell} (h : Chunks bs l X0) (hm : Merges (chunk bs (2 * k) X0) (chunk bs (2 * k + 1) X0) M) : Sorts (chunk (2 * bs) k l) M := by
  rw [chunk_two]
  exact (h.each (2 * k)).merge (h.each (2 * k + 1)) hm
/-- A last part of one's own stays as it is. -/
theorem Chunks.lone {bs k : Nat} {l X0 : List Cell} (h : Chunks bs l X0) (hl : l.length ≤ (2 * k + 1) * bs) : Sorts (chunk (2 * bs) k l) (chunk (2 * bs) k X0) := by
  rw [chunk_two, chunk_two, chunk_nil hl, chunk_nil (k := 2 * k + 1) (l := X0) (by rw [h.len]; exact hl), List.append_nil, List.append_nil]
  exact h.each (2 * k)

/-- The insertion of one more cell: x stands behind R1, ahead of R2. -/
structure Ins (R : List Cell) (x : Cell) (p : Nat) : Prop where
  le : p ≤ R.length
  high : ∀ k z, R[k]? = some z → p ≤ k → x.order z < 0
theorem Ins.start (R : List Cell) (x : Cell) : Ins R x R.length := ⟨Nat.le_refl _, fun k z h hk => by have := get_lt h; omega⟩
theorem Ins.step {R : List Cell} {x z : Cell} {p : Nat} (h : Ins R x (p + 1)) (hR : Mounts R) (hz : R[p]? = some z) (hlt : x.order z < 0) : Ins R x p :=
  ⟨by have := h.le; omega, fun k u hu hk => order_lt_of_lt_le hlt (mounts_get hR hz hu hk)⟩
theorem Ins.done {l R : List Cell} {x : Cell} {p : Nat} (h : Ins R x p) (hR : Sorts l R) (hstop : p = 0 ∨ ∃ z, R[p - 1]? = some z ∧ ¬ x.order z < 0) : Sorts (l ++ [x]) (R.take p ++ x :: R.drop p) := by
  refine hR.merge (Sorts.one x) ?_
  have := Merges.right_one (y := x) (A1 := R.take p) (A2 := R.drop p) (by rw [List.take_append_drop]; exact hR.mounts) (fun u hu => by
    obtain ⟨k, h1, h2⟩ := mem_take_get hu
    rcases hstop with h0 | ⟨z, hz, hn⟩
    · omega
    · exact fun e => hn (order_lt_of_lt_le e (mounts_get hR.mounts h2 hz (by omega)))) (fun u hu => by
    obtain ⟨k, h1, h2⟩ := mem_drop_get hu
    exact h.high k u h2 h1)
  rwa [List.take_append_drop] at this
end Go.Proofs.YtndmlldaebdnmaaDoor
