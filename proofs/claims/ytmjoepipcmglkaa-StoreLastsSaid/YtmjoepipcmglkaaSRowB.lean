/-
  Rows of bytes among others.
-/
import Derived.Test.YtmjoepipcmglkaaSLastP
namespace Go.Proofs.Ytmjoepipcmglkaa
open Go.RowKit

/-- A slice of bytes among others. -/
structure BRow where
  A : Option Addr
  n : Nat
  cap : Nat
  xs : List Int
def BRow.l (r : BRow) : List Value := [.slice r.A r.n r.cap]
theorem BRow.l_len (r : BRow) : r.l.length = 1 := rfl
structure BRowOk (w : World) (r : BRow) : Prop where
  rd : RdB w r.A r.n r.xs
  nil : r.A = none → r.cap = 0
theorem BRowOk.below {w w' : World} {r : BRow} (h : BRowOk w r) (hb : Below w.heap.size w w') : BRowOk w' r := ⟨h.rd.below hb, h.nil⟩
theorem BRowOk.only {w w' : World} {r : BRow} {S : Nat → Prop} (h : BRowOk w r) (ho : Only S w w') (hS : ∀ a, r.A = some a → ¬ S a.block) : BRowOk w' r := ⟨h.rd.only ho hS, h.nil⟩
abbrev OwnR := Own 32 1 BRow.l
theorem infoRow : (Try.prog.info? 32).map (fun i => (i.zero, i.size, i.bytes)) = some (some (.slice none 0 0), 1, 24) := by kernel_rfl
theorem BRow.l_one (r : BRow) : ∀ u ∈ r.l, u.oneCell' = true := by
  intro u hu
  simp only [BRow.l, List.mem_cons, List.not_mem_nil, or_false] at hu
  subst hu; rfl
/-- append(out, r), r just laid into a block of its own. -/
theorem app_row {w : World} {ops : Array Oper} {rest : List Oper} {o : Oper} {a : Act} {Q : Exit → Act → World → Prop} (hgd : o.guard = none) (s x : Operand)
    (ho : o.op = .call { callee := .builtin .append, args := #[s, x], argTypes := #[54, 54] }) (r : BRow)
    {base n cap nb : Nat} {A : Option Addr} {xs : List BRow} (hs : a.eval s = .slice A n cap) (hown : OwnR w base A n cap xs) (hnb : nb = w.heap.size) (hx : a.eval x = .slice (some ⟨nb, 0, none⟩) 1 1) (hn : n ≤ 10000000) (hbase : base ≤ w.heap.size)
    (h : ∀ g cap' w', OwnR w' base (some ⟨g, 0, none⟩) (n + 1) cap' (xs ++ [r]) → Only (fun k => A = some ⟨k, 0, none⟩) w w' → (A = some ⟨g, 0, none⟩ ∨ w.heap.size < g) → g < w'.heap.size →
      wpList Try.prog ops Q rest (a.put o.dst (.slice (some ⟨g, 0, none⟩) (n + 1) cap')) w') : wpList Try.prog ops Q (o :: rest) a (w.alloc (.cells #[.slice r.A r.n r.cap] 32)) := by
  obtain ⟨i0, hi, hz0, hz1, hz2⟩ := info_parts infoRow
  subst hnb
  have hb : Below w.heap.size w (w.alloc (.cells #[.slice r.A r.n r.cap] 32)) := (Below.refl _ _).alloc (Nat.le_refl _) _
  refine append_one hgd s x 54 ho i0 _ 24 Try.underlying54 hi hz0 hz1 hz2 rfl (by omega) BRow.l_len (c := r) hs (hown.below hb) hx (fun j u hj => ?_) r.l_one (by omega) (by unfold maxLen; omega) (Nat.le_trans hbase hb.size) ?_
  · rw [World.cell?_alloc_new]; simpa [BRow.l] using hj
  · intro g cap' w' h1 h2 h3 h4
    refine h g cap' w' h1 ((hb.only _).trans h2) (h3.imp id fun h3 => ?_) h4
    simp at h3; omega

theorem rd_take {w : World} {A : Option Addr} {n k : Nat} {xs : List Int} (h : RdB w A n xs) (hk : k ≤ n) : RdB w A k (xs.take k) :=
  ⟨by rw [List.length_take, ← h.len]; omega, fun i c hc => by
    rw [List.getElem?_take] at hc
    split at hc
    · exact h.at_ i c hc
    · cases hc⟩
end Go.Proofs.Ytmjoepipcmglkaa
