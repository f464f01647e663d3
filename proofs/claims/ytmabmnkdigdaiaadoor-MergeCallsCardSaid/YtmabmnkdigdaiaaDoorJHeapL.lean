/-
  Plain laws of a binary heap in a list: what putting down one element does.
-/
import Derived.Test.YtmabmnkdigdaiaaDoorJCmp
namespace Go.RowKit
variable {α : Type}

/-- lt's 'not behind' is a total preorder. -/
structure LtOk (lt : α → α → Bool) : Prop where
  asym : ∀ a b, lt a b = true → lt b a = false
  trans : ∀ a b c, lt b a = false → lt c b = false → lt c a = false

/-- Below n, whose parent is from i on isn't ahead of it. -/
def HeapFrom (lt : α → α → Bool) (i n : Nat) (l : List α) : Prop :=
  ∀ k, 1 ≤ k → k < n → i ≤ (k - 1) / 2 → ∀ a b, l[(k - 1) / 2]? = some a → l[k]? = some b → lt b a = false

/-- The same, but for i's children; of these what is above i isn't behind. -/
structure DownInv (lt : α → α → Bool) (i0 i n : Nat) (l : List α) : Prop where
  from_ : i0 ≤ i
  edge : ∀ k, 1 ≤ k → k < n → i0 ≤ (k - 1) / 2 → (k - 1) / 2 ≠ i → ∀ a b, l[(k - 1) / 2]? = some a → l[k]? = some b → lt b a = false
  over : i ≠ i0 → 1 ≤ i ∧ i0 ≤ (i - 1) / 2
  grand : i ≠ i0 → ∀ k, 1 ≤ k → k < n → (k - 1) / 2 = i → ∀ a b, l[(i - 1) / 2]? = some a → l[k]? = some b → lt b a = false

theorem swap_get {l : List α} {i j : Nat} {x y : α} (hi : l[i]? = some x) (hj : l[j]? = some y) (k : Nat) : ((l.set i y).set j x)[k]? = if k = j then some x else if k = i then some y else l[k]? := by
  have h1 := (List.getElem?_eq_some_iff.1 hi).1
  have h2 := (List.getElem?_eq_some_iff.1 hj).1
  rw [List.getElem?_set]
  by_cases e : j = k
  · subst e; simp [h2]
  · rw [if_neg e, if_neg (by omega), List.getElem?_set]
    by_cases e2 : i = k
    · subst e2; simp [h1]
    · rw [if_neg e2, if_neg (by omega)]
theorem swap_perm {l : List α} {i j : Nat} {x y : α} (hi : l[i]? = some x) (hj : l[j]? = some y) : ((l.set i y).set j x).Perm l := by
  obtain ⟨h1, rfl⟩ := List.getElem?_eq_some_iff.1 hi
  obtain ⟨h2, rfl⟩ := List.getElem?_eq_some_iff.1 hj
  exact List.set_set_perm h1 h2
theorem swap_drop {l : List α} {i j n : Nat} (x y : α) (hi : i < n) (hj : j < n) : ((l.set i y).set j x).drop n = l.drop n := by
  rw [List.drop_set_of_lt hj, List.drop_set_of_lt hi]
theorem DownInv.start {lt : α → α → Bool} {i0 n : Nat} {l : List α} (h : HeapFrom lt (i0 + 1) n l) : DownInv lt i0 i0 n l :=
  ⟨Nat.le_refl _, fun k h1 h2 h3 h4 => h k h1 h2 (by omega), fun h => absurd rfl h, fun h => absurd rfl h⟩
theorem swap_all {P : α → Prop} {l : List α} {i j m : Nat} {x y : α} (h : ∀ (k : Nat) r, k < m → l[k]? = some r → P r) (hi : l[i]? = some x) (hj : l[j]? = some y) (him : i < m) (hjm : j < m) : ∀ (k : Nat) r, k < m → ((l.set i y).set j x)[k]? = some r → P r := fun k r hk hr => by
  rw [swap_get hi hj] at hr
  split at hr
  · injection hr with hr; subst hr; exact h i _ him hi
  · split at hr
    · injection hr with hr; subst hr; exact h j _ hjm hj
    · exact h k r hk hr
/-- The lesser child comes up. -/
theorem DownInv.step {lt : α → α → Bool} (hl : LtOk lt) {i0 i n j : Nat} {l : List α} (h : DownInv lt i0 i n l) (hj : 1 ≤ j) (hjn : j < n) (hp : (j - 1) / 2 = i) {x y : α} (hx : l[i]? = some x) (hy : l[j]? = some y) (hlt : lt y x = true)
    (hleast : ∀ k, 1 ≤ k → k < n → (k - 1) / 2 = i → ∀ c, l[k]? = some c → lt c y = false) : DownInv lt i0 j n ((l.set i y).set j x) := by
  have hfrom := h.from_
  have hij : i < j := by omega
  refine ⟨by omega, fun k h1 h2 h3 h4 a b ha hb => ?_, fun _ => ⟨hj, by omega⟩, fun _ k h1 h2 h3 a b ha hb => ?_⟩
  · rw [swap_get hx hy] at ha hb
    rw [if_neg h4] at ha
    by_cases e1 : k = j
    · subst e1
      rw [if_pos hp] at ha
      rw [if_pos rfl] at hb
      injection ha with ha; injection hb with hb
      subst ha; subst hb
      exact hl.asym _ _ hlt
    · rw [if_neg e1] at hb
      by_cases e2 : (k - 1) / 2 = i
      · rw [if_pos e2] at ha
        injection ha with ha; subst ha
        rw [if_neg (by omega)] at hb
        exact hleast k h1 h2 e2 b hb
      · rw [if_neg e2] at ha
        by_cases e3 : k = i
        · subst e3
          rw [if_pos rfl] at hb
          injection hb with hb; subst hb
          have hne : k ≠ i0 := by omega
          exact h.grand hne j hj hjn hp a y ha hy
        · rw [if_neg e3] at hb
          exact h.edge k h1 h2 h3 e2 a b ha hb
  · rw [swap_get hx hy] at ha hb
    rw [hp, if_neg (by omega), if_pos rfl] at ha
    injection ha with ha; subst ha
    rw [if_neg (by omega), if_neg (by omega)] at hb
    exact h.edge k h1 h2 (by omega) (by omega) y b (by rw [h3]; exact hy) hb
theorem DownInv.none {lt : α → α → Bool} {i0 i n : Nat} {l : List α} (h : DownInv lt i0 i n l) (hn : n ≤ 2 * i + 1) : HeapFrom lt i0 n l :=
  fun k h1 h2 h3 => h.edge k h1 h2 h3 (by omega)
theorem DownInv.stop {lt : α → α → Bool} (hl : LtOk lt) {i0 i n j : Nat} {l : List α} (h : DownInv lt i0 i n l) {x y : α} (hx : l[i]? = some x) (_hy : l[j]? = some y) (hlt : lt y x = false)
    (hleast : ∀ k, 1 ≤ k → k < n → (k - 1) / 2 = i → ∀ c, l[k]? = some c → lt c y = false) : HeapFrom lt i0 n l := by
  intro k h1 h2 h3 a b ha hb
  by_cases e : (k - 1) / 2 = i
  · rw [e, hx] at ha
    injection ha with ha; subst ha
    exact hl.trans x y b hlt (hleast k h1 h2 e b hb)
  · exact h.edge k h1 h2 h3 e a b ha hb
/-- On top is the least. -/
theorem HeapFrom.top {lt : α → α → Bool} (hl : LtOk lt) {l : List α} (h : HeapFrom lt 0 l.length l) {x : α} (hx : l[0]? = some x) : ∀ (k : Nat) (b : α), l[k]? = some b → lt b x = false := by
  intro k
  induction k using Nat.strongRecOn with
  | ind k ih =>
    intro b hb
    have hk := (List.getElem?_eq_some_iff.1 hb).1
    by_cases h0 : k = 0
    · subst h0
      rw [hx] at hb
      injection hb with hb; subst hb
      cases e : lt x x with
      | false => rfl
      | true => exact e.symm.trans (hl.asym _ _ e)
    · have hp : (k - 1) / 2 < l.length := by omega
      have := ih ((k - 1) / 2) (by omega) _ (List.getElem?_eq_getElem hp)
      exact hl.trans x _ b this (h k (by omega) hk (Nat.zero_le _) _ b (List.getElem?_eq_getElem hp) hb)
theorem HeapFrom.last {lt : α → α → Bool} {n : Nat} {l : List α} {i : Nat} (h : n ≤ 2 * i + 1) : HeapFrom lt i n l := fun k h1 h2 h3 => by omega
theorem HeapFrom.take {lt : α → α → Bool} {n : Nat} {l : List α} (h : HeapFrom lt 0 n l) (hn : n ≤ l.length) : HeapFrom lt 0 (l.take n).length (l.take n) := fun k h1 h2 h3 a b ha hb => by
  have hl : (l.take n).length = n := by simp; omega
  rw [hl] at h2
  rw [List.getElem?_take, if_pos (by omega)] at ha hb
  exact h k h1 h2 h3 a b ha hb
/-- What a step at the root leaves: the root alone may be too great. -/
theorem HeapFrom.turned {lt : α → α → Bool} {n : Nat} {l : List α} (h : HeapFrom lt 0 n l) (x : α) : HeapFrom lt 1 n (l.set 0 x) := fun k h1 h2 h3 a b ha hb => by
  rw [List.getElem?_set, if_neg (by omega)] at ha hb
  exact h k h1 h2 (Nat.zero_le _) a b ha hb
/-- .. with the last in the root's place. -/
theorem HeapFrom.swapped {lt : α → α → Bool} {n : Nat} {l : List α} {x y : α} (h : HeapFrom lt 1 (n + 1) l) (hx : l[0]? = some x) (hy : l[n]? = some y) : HeapFrom lt 1 n ((l.set 0 y).set n x) := fun k h1 h2 h3 a b ha hb => by
  rw [swap_get hx hy, if_neg (by omega), if_neg (by omega)] at ha hb
  exact h k h1 (by omega) h3 a b ha hb
theorem perm_take {l l' : List α} {n : Nat} (h : l'.Perm l) (hd : l'.drop n = l.drop n) : (l'.take n).Perm (l.take n) := by
  have := h
  rw [← List.take_append_drop n l', ← List.take_append_drop n l, hd] at this
  exact (List.perm_append_right_iff _).1 this
end Go.RowKit
namespace Go.Proofs.YtmabmnkdigdaiaaDoor
open Go.RowKit
end Go.Proofs.YtmabmnkdigdaiaaDoor
