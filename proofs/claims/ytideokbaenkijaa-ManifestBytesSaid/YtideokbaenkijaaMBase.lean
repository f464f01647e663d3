/-
  Bytes that come out.
-/
import Derived.Test.YtideokbaenkijaaKBytes
import Derived.Test.YtideokbaenkijaaJBits
import Derived.Test.YtideokbaenkijaaJRegion
import Derived.WalkKit
import Derived.Lib.Hide
import Derived.Deep.LoopGhost
import Derived.BigCall
import Derived.BigGuard
import Derived.Deep.RegionLaw
import Derived.Laws.IdiomCopy
import Derived.Lib.ConvBytes
import Derived.Lib.CountLaws
import Derived.Lib.SliceRun
import Derived.OwnWalk
import Derived.Deep.AppendLies
import Derived.Laws.StructEq
import Derived.Maps.AppendAt
import Derived.BigQuiet
import Derived.Lib.MinMax
import Derived.Lib.AppendZeros
import Derived.Outline
namespace Go.Proofs.Ytideokbaenkijaa
open Go.RowKit

def OutB (xs : List Int) (w : World) (e : Ending) (w' : World) : Prop := ∃ A n cap, e = .returned (.slice A n cap) ∧ OwnB w' w.heap.size A n cap xs ∧ Below w.heap.size w w'
set_option maxRecDepth 20000 in
/-- append(out, l...) of bytes: its run. -/
theorem run_app_bytes {w : World} {base n cap m cm : Nat} {A B : Option Addr} {xs ys : List Int} (hown : OwnB w base A n cap xs) (hB : B = none → cm = 0) (hy : RdB w B m ys) (hn : n + m ≤ 100000000) (hbase : base ≤ w.heap.size) (ty : TypeId) :
    ∃ A' cap' w', (Builtin.append_ #[25, 25] ty #[.slice A n cap, .slice B m cm]).run Try.prog w = .ok (.slice A' (n + m) cap') w' ∧ OwnB w' base A' (n + m) cap' (xs ++ ys) ∧ Only (fun k => A = some ⟨k, 0, none⟩) w w' ∧
      (∀ g, A' = some ⟨g, 0, none⟩ → A = some ⟨g, 0, none⟩ ∨ w.heap.size ≤ g) ∧ (A' = none → A = none) := by
  obtain ⟨i0, hi, hz0, hz1, hz2⟩ := info_parts infoByte
  cases B with
  | none =>
    have hm0 : m = 0 := by
      cases m with
      | zero => rfl
      | succ m =>
        obtain ⟨c, b, off, _, h2, _⟩ := hy.get 0 (by omega)
        cases h2
    subst hm0
    obtain rfl := hB rfl
    obtain rfl : ys = [] := List.eq_nil_of_length_eq_zero hy.len.symm
    have hrun := run_append_owned_none (P := Try.prog) (w := w) base 25 ty 5 i0 1 Try.underlying25 hi _ n (xs.flatMap encB) hown.2
    exact ⟨A, cap, w, hrun, by rw [List.append_nil, Nat.add_zero]; exact hown, Only.refl _ _, fun g hg => .inl hg, fun h => h⟩
  | some ad =>
    obtain ⟨v', w', hr, hown', hgrow, hnil, hat⟩ := run_append_own_at (P := Try.prog) w base 25 ty 5 i0 _ 1 1 Try.underlying25 hi hz0 hz1 hz2 rfl (by omega) _ n (xs.flatMap encB) hown.2 ad m cm (ys.flatMap encB) (by rw [flat_len encB_len, hy.len]) (fun j u hj => by
      obtain ⟨i, r, c, h2, h3, rfl⟩ := flat_back encB_len ys j u hj
      obtain ⟨b, off, h4, _, h5⟩ := hy.at_ i c h2
      injection h4 with h4
      subst h4
      have := h5 r u h3
      unfold Addr.add
      split
      · rename_i h0
        have e : off + i * 1 + r = off := by omega
        rw [e] at this; exact this
      · have e : off + i * 1 + r = off + (i * 1 + r) := by omega
        rw [e] at this; exact this) (fun u hu => by
      obtain ⟨c, _, hc⟩ := List.mem_flatMap.1 hu
      exact encB_one c u hc) (by unfold maxLen; omega) (by omega) hbase
    have hform : ∃ A' cap', v' = .slice A' (n + m) cap' ∧ (A' = none ∨ ∃ g, A' = some ⟨g, 0, none⟩) := by
      rcases hown'.2 with ⟨h2, h3⟩ | ⟨g, cap', cur, h2, _⟩
      · exact ⟨none, 0, by rw [h2, h3], .inl rfl⟩
      · exact ⟨_, cap', h2, .inr ⟨g, rfl⟩⟩
    obtain ⟨A', cap', rfl, hA'⟩ := hform
    refine ⟨A', cap', w', hr, ⟨by rw [List.length_append, hown.1, hy.len], by rw [List.flatMap_append]; exact hown'⟩, (grownBy_only hgrow).mono fun k _ hk => ?_, fun g hg => ?_, fun hn => ?_⟩
    · rcases hown.shape with ⟨hA, _⟩ | ⟨g', hA, _⟩
      · rw [hA] at hk; cases hk
      · rw [hA] at hk ⊢; simp only [Value.ownBlock, Option.some.injEq] at hk; rw [hk]
    · subst hg
      rcases hat with hat | hat
      · left
        rcases hown.shape with ⟨hA, _⟩ | ⟨g', hA, _⟩
        · rw [hA] at hat; cases hat
        · rw [hA] at hat ⊢; simp only [Value.ownBlock, Option.some.injEq] at hat; rw [hat]
      · right; simp only [Value.ownBlock, Option.some.injEq] at hat; omega
    · subst hn
      rcases hown'.2 with ⟨h2, h3⟩ | ⟨g, cap', cur, h2, _⟩
      · have := (hnil.1 h2).1
        injection this
      · injection h2 with h2; cases h2
theorem app_bytes {w : World} {ops : Array Oper} {rest : List Oper} {o : Oper} {a : Act} {Q : Exit → Act → World → Prop} (hgd : o.guard = none) (s x : Operand)
    (ho : o.op = .call { callee := .builtin .append, args := #[s, x], argTypes := #[25, 25] })
    {base n cap m cm : Nat} {A B : Option Addr} {xs ys : List Int} (hs : a.eval s = .slice A n cap) (hown : OwnB w base A n cap xs) (hx : a.eval x = .slice B m cm) (hB : B = none → cm = 0) (hy : RdB w B m ys) (hn : n + m ≤ 100000000) (hbase : base ≤ w.heap.size)
    (h : ∀ A' cap' w', OwnB w' base A' (n + m) cap' (xs ++ ys) → Only (fun k => A = some ⟨k, 0, none⟩) w w' → (∀ g, A' = some ⟨g, 0, none⟩ → A = some ⟨g, 0, none⟩ ∨ w.heap.size ≤ g) → (A' = none → A = none) →
      wpList Try.prog ops Q rest (a.put o.dst (.slice A' (n + m) cap')) w') : wpList Try.prog ops Q (o :: rest) a w := by
  obtain ⟨A', cap', w', hr, h2, h3, h4, h5⟩ := run_app_bytes hown hB hy hn hbase o.type
  exact Lib.wpList_append_run _ hgd s x _ _ ho _ _ hs hx _ _ hr (h A' cap' w' h2 h3 h4 h5)
theorem step_app_bytes {w : World} {ops : Array Oper} {o : Oper} {a : Act} {K : Act → World → Prop} {Q : Exit → Act → World → Prop} {E : Prop} (hgd : o.guard = none) (s x : Operand)
    (ho : o.op = .call { callee := .builtin .append, args := #[s, x], argTypes := #[25, 25] })
    {base n cap m cm : Nat} {A B : Option Addr} {xs ys : List Int} (hs : a.eval s = .slice A n cap) (hown : OwnB w base A n cap xs) (hx : a.eval x = .slice B m cm) (hB : B = none → cm = 0) (hy : RdB w B m ys) (hn : n + m ≤ 100000000) (hbase : base ≤ w.heap.size)
    (h : ∀ A' cap' w', OwnB w' base A' (n + m) cap' (xs ++ ys) → Only (fun k => A = some ⟨k, 0, none⟩) w w' → (∀ g, A' = some ⟨g, 0, none⟩ → A = some ⟨g, 0, none⟩ ∨ w.heap.size ≤ g) → (A' = none → A = none) →
      K (a.put o.dst (.slice A' (n + m) cap')) w') : if Region.wanted o (yielded ops a.tmps) = true then Oper.wp Try.prog o a w K Q else E := by
  have hw : Region.wanted o (yielded ops a.tmps) = true := by simp [Region.wanted, hgd]
  rw [if_pos hw]
  obtain ⟨A', cap', w', hr, h2, h3, h4, h5⟩ := run_app_bytes hown hB hy hn hbase o.type
  exact Lib.wp_append_run _ s x _ _ ho _ _ hs hx _ _ hr (h A' cap' w' h2 h3 h4 h5)

/-- A literal of bytes. -/
theorem own_bytes {w : World} {base : Nat} {cs : Array Value} {xs : List Int} (hx : cs.toList = xs.map (Value.int .u8)) (hb : base ≤ w.heap.size) (hs : xs.length ≤ 1000000) : OwnB (w.alloc (.cells cs 5)) base (some ⟨w.heap.size, 0, none⟩) xs.length xs.length xs := by
  have hl : cs.size = xs.length := by rw [← Array.length_toList, hx, List.length_map]
  refine ⟨rfl, by rw [flatB]; simp, .inr ⟨w.heap.size, xs.length, cs, rfl, hb, by rw [heap_alloc_new], Nat.le_refl _, by unfold maxLen; omega, by omega, ?_⟩⟩
  rw [flatB, ← hx, List.take_of_length_le (by rw [Array.length_toList]; omega)]

end Go.Proofs.Ytideokbaenkijaa
