/-
  Names in order; how much there is, name by name.
-/
import Derived.Test.YtmjoepipcmglkaaSAlive
namespace Go.Proofs.Ytmjoepipcmglkaa
open Go.RowKit

/-- What a name's file holds. -/
def bytesD (fs : List FileD) (s : ByteArray) : List Int := match findD fs s with
  | none => []
  | some f => f.xs
def sumN (fs : List FileD) (ns : List ByteArray) : Nat := (ns.map fun s => (bytesD fs s).length).sum
theorem sumN_all {fs : List FileD} (hn : fs.Pairwise fun a b => a.name ≠ b.name) : sumN fs (namesB fs) = sizeL fs := by
  unfold sumN sizeL
  rw [((names_perm fs).map fun s => (bytesD fs s).length).sum_nat, List.map_map]
  congr 1
  exact List.map_congr_left fun f hf => by
    show (bytesD fs f.name).length = _
    unfold bytesD
    rw [findD_mem hn hf]
theorem sumN_take {fs : List FileD} {ns : List ByteArray} {k : Nat} {s : ByteArray} (h : ns[k]? = some s) : sumN fs (ns.take (k + 1)) = sumN fs (ns.take k) + (bytesD fs s).length := by
  unfold sumN
  rw [take_get h, List.map_append, List.sum_append]
  simp
theorem sumN_le (fs : List FileD) (ns : List ByteArray) (k : Nat) : sumN fs (ns.take k) ≤ sumN fs ns := by
  unfold sumN
  conv => rhs; rw [← List.take_append_drop k ns, List.map_append, List.sum_append]
  omega
theorem cmp_tri : ∀ a b : List UInt8, Lib.compareBytes a b < 0 ∨ a = b ∨ b < a
  | [], [] => .inr (.inl rfl)
  | [], _ :: _ => .inl (by simp [Lib.compareBytes])
  | _ :: _, [] => .inr (.inr (List.nil_lt_cons _ _))
  | x :: a, y :: b => by
    by_cases h1 : x < y
    · exact .inl (by simp [Lib.compareBytes, h1])
    · by_cases h2 : y < x
      · exact .inr (.inr (List.cons_lt_cons_iff.2 (.inl h2)))
      · have e : x = y := by
          rw [UInt8.lt_iff_toNat_lt] at h1 h2
          exact UInt8.toNat_inj.1 (by omega)
        subst e
        rcases cmp_tri a b with h | h | h
        · exact .inl (by simp [Lib.compareBytes, h1, h])
        · exact .inr (.inl (by rw [h]))
        · exact .inr (.inr (List.cons_lt_cons_iff.2 (.inr ⟨rfl, h⟩)))
/-- Each name stands before the next. -/
theorem names_rise {fs : List FileD} (hn : fs.Pairwise fun a b => a.name ≠ b.name) {k : Nat} {a b : ByteArray} (ha : (namesB fs)[k]? = some a) (hb : (namesB fs)[k + 1]? = some b) : cmpS a b < 0 := by
  have tr : ∀ a b c : List UInt8, leB a b = true → leB b c = true → leB a c = true := fun a b c h1 h2 => by simp only [leB, decide_eq_true_eq] at *; exact List.le_trans h1 h2
  have to : ∀ a b : List UInt8, (leB a b || leB b a) = true := fun a b => by simp only [leB, Bool.or_eq_true, decide_eq_true_eq]; exact List.le_total a b
  have hs := List.pairwise_mergeSort tr to (fs.map fun f => f.name.data.toList)
  have hd : ((fs.map fun f => f.name.data.toList).mergeSort leB).Pairwise fun x y => x ≠ y :=
    ((List.mergeSort_perm (fs.map fun f => f.name.data.toList) leB).pairwise_iff fun {_ _} h => Ne.symm h).2 (List.pairwise_map.2 (hn.imp fun {a b} hab e => hab (ByteArray.ext (Array.ext' e))))
  unfold namesB at ha hb
  rw [List.getElem?_map] at ha hb
  obtain ⟨x, hx, rfl⟩ := Option.map_eq_some_iff.1 ha
  obtain ⟨y, hy, rfl⟩ := Option.map_eq_some_iff.1 hb
  obtain ⟨hk, hx⟩ := List.getElem?_eq_some_iff.1 hx
  obtain ⟨hk2, hy⟩ := List.getElem?_eq_some_iff.1 hy
  have h1 := List.pairwise_iff_getElem.1 hs k (k + 1) hk hk2 (by omega)
  have h2 := List.pairwise_iff_getElem.1 hd k (k + 1) hk hk2 (by omega)
  rw [hx, hy] at h1 h2
  simp only [leB, decide_eq_true_eq] at h1
  rcases cmp_tri x y with h | h | h
  · exact h
  · exact absurd h h2
  · exact absurd h h1
end Go.Proofs.Ytmjoepipcmglkaa
