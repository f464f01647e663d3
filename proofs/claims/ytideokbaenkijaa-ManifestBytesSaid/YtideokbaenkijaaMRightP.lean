/-
  manifest.Right.
-/
import Derived.Test.YtideokbaenkijaaMAll
import Derived.Sort.OwnSortedInts
import Derived.Lib.OwnBridge
import Derived.Lib.SlicesCompact
namespace Go.Proofs.Ytideokbaenkijaa
open Go.RowKit

abbrev encN (x : Int) : List Value := [.int .i64 x]
theorem encN_len (x : Int) : (encN x).length = 1 := rfl
abbrev RdN := Rd 1 encN
abbrev OwnN := Own 3 1 encN
theorem flatN : ∀ l : List Int, l.flatMap encN = l.map (Value.int .i64)
  | [] => rfl
  | x :: l => by rw [List.flatMap_cons, List.map_cons, flatN l]; rfl
theorem infoInt : (Try.prog.info? 3).map (fun i => (i.zero, i.size, i.bytes)) = some (some (.int .i64 0), 1, 8) := by kernel_rfl
def sortZ (ts : List Int) : List Int := ts.mergeSort fun x y => decide (x ≤ y)
theorem sortZ_perm (ts : List Int) : (sortZ ts).Perm ts := List.mergeSort_perm _ _
theorem sortZ_up (ts : List Int) : (sortZ ts).Pairwise fun a b => a ≤ b := by
  have := List.pairwise_mergeSort (le := fun x y : Int => decide (x ≤ y)) (fun a b c h1 h2 => by simp only [decide_eq_true_eq] at *; omega) (fun a b => by simp only [Bool.or_eq_true, decide_eq_true_eq]; omega) ts
  exact this.imp fun h => by simpa using h
theorem sortZ_len (ts : List Int) : (sortZ ts).length = ts.length := (sortZ_perm ts).length_eq
theorem compact_len (l : List Int) (hs : l.Pairwise fun a b => a ≤ b) : (Lib.compact l).length = l.length ↔ l.Nodup := by
  have h1 : (Lib.compact l).length = ((List.range l.length).filter (Lib.keeps l.toArray)).length := by unfold Lib.compact Lib.compactUpTo; rw [List.length_map]
  have h2 : ((List.range l.length).filter (Lib.keeps l.toArray)).length = l.length ↔ ∀ j ∈ List.range l.length, Lib.keeps l.toArray j = true := by
    have := List.length_filter_eq_length_iff (p := Lib.keeps l.toArray) (l := List.range l.length)
    rwa [List.length_range] at this
  rw [h1, h2]
  have hk : ∀ j, j < l.length → (Lib.keeps l.toArray j = true ↔ (j = 0 ∨ l[j]? ≠ l[j - 1]?)) := fun j hj => by
    unfold Lib.keeps
    rw [decide_eq_true_eq]
    have e1 : l.toArray[j]! = l[j] := by simp [getElem!_pos, hj]
    have e2 : l.toArray[j - 1]! = l[j - 1]'(by omega) := by rw [getElem!_pos l.toArray (j - 1) (by simp; omega)]; simp
    rw [e1, e2, List.getElem?_eq_getElem hj, List.getElem?_eq_getElem (by omega : j - 1 < l.length)]
    simp
  constructor
  · intro h
    refine List.pairwise_iff_getElem.2 fun i j hi hj hij e => ?_
    have hpos : j ≠ 0 := by omega
    have := (hk j hj).1 (h j (List.mem_range.2 hj))
    rcases this with h0 | h0
    · exact hpos h0
    · have hs1 := List.pairwise_iff_getElem.1 hs
      rw [List.getElem?_eq_getElem hj, List.getElem?_eq_getElem (by omega : j - 1 < l.length)] at h0
      have h3 : l[j - 1]'(by omega) ≠ l[j] := fun e => h0 (by rw [e])
      have h4 := hs1 (j - 1) j (by omega) hj (by omega)
      rcases Nat.lt_or_ge i (j - 1) with h5 | h5
      · have h6 := hs1 i (j - 1) hi (by omega) h5
        omega
      · have : i = j - 1 := by omega
        subst this
        exact h3 e
  · intro h j hj
    have hj := List.mem_range.1 hj
    rw [hk j hj]
    by_cases h0 : j = 0
    · exact .inl h0
    · refine .inr fun e => ?_
      rw [List.getElem?_eq_getElem hj, List.getElem?_eq_getElem (by omega : j - 1 < l.length)] at e
      injection e with e
      exact List.pairwise_iff_getElem.1 h (j - 1) j (by omega) hj (by omega) e.symm
theorem low_all {ts : List Int} (h : 0 < (sortZ ts).length) (b : Int) : (∀ t ∈ ts, b ≤ t) ↔ b ≤ (sortZ ts)[0] := by
  constructor
  · intro k
    exact k _ ((sortZ_perm ts).mem_iff.1 (List.getElem_mem h))
  · intro k t ht
    obtain ⟨i, hi, rfl⟩ := List.getElem_of_mem ((sortZ_perm ts).mem_iff.2 ht)
    rcases Nat.eq_zero_or_pos i with rfl | hp
    · exact k
    · have := List.pairwise_iff_getElem.1 (sortZ_up ts) 0 i h hi hp
      omega
theorem high_all {ts : List Int} {n : Nat} (hn : (sortZ ts).length = n + 1) (b : Int) : (∀ t ∈ ts, t < b) ↔ (sortZ ts)[n]'(by omega) < b := by
  constructor
  · intro k
    exact k _ ((sortZ_perm ts).mem_iff.1 (List.getElem_mem _))
  · intro k t ht
    obtain ⟨i, hi, rfl⟩ := List.getElem_of_mem ((sortZ_perm ts).mem_iff.2 ht)
    rcases Nat.lt_or_ge i n with hp | hp
    · have := List.pairwise_iff_getElem.1 (sortZ_up ts) i n hi (by omega) hp
      omega
    · have : i = n := by omega
      subst this
      exact k
theorem not_right {s : StateD} (h : ¬ RightS s) : rightS s = false := by
  rw [← Bool.not_eq_true]
  exact fun c => h (right_iff.1 c)
theorem rdn_some {w : World} {A : Option Addr} {n : Nat} {xs : List Int} (h : RdN w A n xs) (hn : 0 < n) : ∃ b o, A = some ⟨b, o, none⟩ ∧ b < w.heap.size := by
  obtain ⟨_, b, o, _, e, hb, _⟩ := h.get 0 hn
  exact ⟨b, o, e, hb⟩
/-- slices.Clone of ints. -/
theorem nclone_calls (A : Option Addr) (k c : Nat) (ts : List Int) (w : World) (h : RdN w A k ts) (hk : k ≤ 1000000) :
    Calls Try.prog 32 #[.slice A k c] w fun e w' => ∃ B m, e = .returned (.slice B k m) ∧ OwnN w' w.heap.size B k m ts ∧ Below w.heap.size w w' := by
  have hlen := h.len
  cases A with
  | none =>
    have hk0 : k = 0 := by
      rcases Nat.eq_zero_or_pos k with h0 | h0
      · exact h0
      · obtain ⟨b, o, e, _⟩ := rdn_some h h0
        cases e
    subst hk0
    have ht : ts = [] := List.eq_nil_of_length_eq_zero hlen.symm
    subst ht
    refine (Try.slices_Clone_int_nil 0 c w).mono ?_
    rintro e w' ⟨rfl, rfl⟩
    exact ⟨none, 0, rfl, Own.nil _ _ _ _ _, Below.refl _ _⟩
  | some a =>
    rcases Nat.eq_zero_or_pos k with h0 | h0
    · subst h0
      have ht : ts = [] := List.eq_nil_of_length_eq_zero hlen.symm
      subst ht
      refine (Try.slices_Clone_int_zero a c w).mono ?_
      rintro e w' ⟨v, rfl, hrow, hne, hb⟩
      obtain ⟨h1, ⟨h2, h3⟩ | ⟨g, cap', cur, h3, h4, h5⟩⟩ := id hrow
      · exact absurd h2 hne
      · subst h3
        exact ⟨_, _, rfl, ⟨rfl, hrow⟩, hb⟩
    · obtain ⟨b, o, e, _⟩ := rdn_some h h0
      injection e with e
      subst e
      refine (Try.slices_Clone_int b o k c ts w (by omega) (by omega) (fun j hj => ?_)).mono ?_
      · obtain ⟨d, b', o', hd, e, _, h4⟩ := h.get j (by omega)
        injection e with e
        injection e with e1 e2 _
        subst e1 e2
        have := h4 0 _ rfl
        rw [List.getD_eq_getElem?_getD, hd]
        simpa using this
      · rintro e w' ⟨v, rfl, hrow, hne, hb⟩
        rw [List.take_of_length_le (by omega)] at hrow
        obtain ⟨h1, ⟨h2, h3⟩ | ⟨g, cap', cur, h3, h4, h5⟩⟩ := id hrow
        · exact absurd h2 hne
        · subst h3
          exact ⟨_, _, rfl, ⟨hlen, by rw [flatN]; exact hrow⟩, hb⟩
end Go.Proofs.Ytideokbaenkijaa
