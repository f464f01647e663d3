/-
  Rows of bytes among others.
-/
import Derived.Test.YtideokbaenkijaaMPlain
namespace Go.Proofs.Ytideokbaenkijaa
open Go.RowKit

/-- A slice of bytes among others. -/
structure BRow where
  A : Option Addr
  n : Nat
  cap : Nat
  xs : List Int
def BRow.l (r : BRow) : List Value := [.slice r.A r.n r.cap]
theorem BRow.l_len (r : BRow) : r.l.length = 1 := rfl
structure BRowOk (w : World) (r : BRow) : Prop where
  rd : RdB w r.A r.n r.xs
  nil : r.A = none → r.cap = 0
theorem BRowOk.below {w w' : World} {r : BRow} (h : BRowOk w r) (hb : Below w.heap.size w w') : BRowOk w' r := ⟨h.rd.below hb, h.nil⟩
theorem BRowOk.only {w w' : World} {r : BRow} {S : Nat → Prop} (h : BRowOk w r) (ho : Only S w w') (hS : ∀ a, r.A = some a → ¬ S a.block) : BRowOk w' r := ⟨h.rd.only ho hS, h.nil⟩
def sumL (rows : List BRow) : Nat := (rows.flatMap BRow.xs).length
theorem sum_take {rows : List BRow} {k : Nat} {r : BRow} (h : rows[k]? = some r) : (rows.take (k + 1)).flatMap BRow.xs = (rows.take k).flatMap BRow.xs ++ r.xs := by
  rw [List.take_add_one, h, List.flatMap_append]
  simp
theorem sum_le (rows : List BRow) (k : Nat) : ((rows.take k).flatMap BRow.xs).length ≤ sumL rows := by
  unfold sumL
  conv => rhs; rw [← List.take_append_drop k rows, List.flatMap_append, List.length_append]
  omega
abbrev OwnR := Own 25 1 BRow.l
theorem infoRow : (Try.prog.info? 25).map (fun i => (i.zero, i.size, i.bytes)) = some (some (.slice none 0 0), 1, 24) := by kernel_rfl
theorem BRow.l_one (r : BRow) : ∀ u ∈ r.l, u.oneCell' = true := by
  intro u hu
  simp only [BRow.l, List.mem_cons, List.not_mem_nil, or_false] at hu
  subst hu; rfl
/-- append(out, r), r just laid into a block of its own. -/
theorem app_row {w : World} {ops : Array Oper} {rest : List Oper} {o : Oper} {a : Act} {Q : Exit → Act → World → Prop} (hgd : o.guard = none) (s x : Operand)
    (ho : o.op = .call { callee := .builtin .append, args := #[s, x], argTypes := #[65, 65] }) (r : BRow)
    {base n cap nb : Nat} {A : Option Addr} {xs : List BRow} (hs : a.eval s = .slice A n cap) (hown : OwnR w base A n cap xs) (hnb : nb = w.heap.size) (hx : a.eval x = .slice (some ⟨nb, 0, none⟩) 1 1) (hn : n ≤ 10000000) (hbase : base ≤ w.heap.size)
    (h : ∀ g cap' w', OwnR w' base (some ⟨g, 0, none⟩) (n + 1) cap' (xs ++ [r]) → Only (fun k => A = some ⟨k, 0, none⟩) w w' → (A = some ⟨g, 0, none⟩ ∨ w.heap.size < g) → g < w'.heap.size →
      wpList Try.prog ops Q rest (a.put o.dst (.slice (some ⟨g, 0, none⟩) (n + 1) cap')) w') : wpList Try.prog ops Q (o :: rest) a (w.alloc (.cells #[.slice r.A r.n r.cap] 25)) := by
  obtain ⟨i0, hi, hz0, hz1, hz2⟩ := info_parts infoRow
  subst hnb
  have hb : Below w.heap.size w (w.alloc (.cells #[.slice r.A r.n r.cap] 25)) := (Below.refl _ _).alloc (Nat.le_refl _) _
  refine append_one hgd s x 65 ho i0 _ 24 Try.underlying65 hi hz0 hz1 hz2 rfl (by omega) BRow.l_len (c := r) hs (hown.below hb) hx (fun j u hj => ?_) r.l_one (by omega) (by unfold maxLen; omega) (Nat.le_trans hbase hb.size) ?_
  · rw [World.cell?_alloc_new]; simpa [BRow.l] using hj
  · intro g cap' w' h1 h2 h3 h4
    refine h g cap' w' h1 ((hb.only _).trans h2) (h3.imp id fun h3 => ?_) h4
    simp at h3; omega

theorem rd_take {w : World} {A : Option Addr} {n k : Nat} {xs : List Int} (h : RdB w A n xs) (hk : k ≤ n) : RdB w A k (xs.take k) :=
  ⟨by rw [List.length_take, ← h.len]; omega, fun i c hc => by
    rw [List.getElem?_take] at hc
    split at hc
    · exact h.at_ i c hc
    · cases hc⟩
section
variable {α : Type}
theorem rd_block {sz : Nat} {enc : α → List Value} {w : World} {b : Nat} {cs : Array Value} {T : TypeId} {f : Nat × Nat} (h : w.heap[b]? = some (.cells cs T f)) (xs : List α) (hx : cs.toList = xs.flatMap enc) (hsz : ∀ x, (enc x).length = sz) :
    Rd sz enc w (some ⟨b, 0, none⟩) xs.length xs :=
  ⟨rfl, fun i c hc => by
    have hb : b < w.heap.size := by
      rcases Nat.lt_or_ge b w.heap.size with hh | hh
      · exact hh
      · rw [Array.getElem?_eq_none hh] at h; cases h
    refine ⟨b, 0, rfl, hb, fun j v hv => ?_⟩
    have := flat_at hsz xs i j c v hc hv
    rw [← hx, Array.getElem?_toList] at this
    simp [World.cell?, h, this]⟩
end
theorem str_beq (s t : ByteArray) : (s.toList == t.toList) = decide (s = t) := by
  rw [Bool.eq_iff_iff, beq_iff_eq, decide_eq_true_eq, ByteArray.toList_eq, ByteArray.toList_eq]
  constructor
  · intro h
    cases s; cases t
    simpa using h
  · rintro rfl; rfl
theorem drewN_below (w : World) : ∀ n, Below w.heap.size w (w.drewN n) := by
  have : ∀ (n : Nat) (W : World), Below w.heap.size W (W.drewN n) := by
    intro n
    induction n with
    | zero => intro W; exact Below.refl _ _
    | succ n ih => intro W; exact ((ih W).trans (Below.drew (Below.refl _ _)))
  exact fun n => this n w
theorem own_nil_cap {α : Type} {E : TypeId} {sz : Nat} {enc : α → List Value} {w : World} {base n cap : Nat} {A : Option Addr} {xs : List α} (h : Own E sz enc w base A n cap xs) : A = none → cap = 0 := fun hA => by
  obtain ⟨_, _, ⟨h2, _⟩ | ⟨g, cap', cur, h3, _⟩⟩ := h
  · injection h2
  · rw [hA] at h3; injection h3 with h3; cases h3
theorem own_cap {α : Type} {E : TypeId} {sz : Nat} {enc : α → List Value} {w : World} {base n cap : Nat} {A : Option Addr} {xs : List α} (h : Own E sz enc w base A n cap xs) : n ≤ cap ∧ cap ≤ maxLen := by
  obtain ⟨h0, h1, h2 | ⟨g, cap', cur, h3, h4, h5, h6, h7, _⟩⟩ := h
  · obtain ⟨h2, h3⟩ := h2
    injection h2 with h2 h4 h5
    exact ⟨by omega, by unfold maxLen; omega⟩
  · injection h3 with h3 _ h8
    subst h8
    exact ⟨h6, h7⟩
theorem own_brow {w : World} {base n cap : Nat} {A : Option Addr} {xs : List Int} (h : OwnB w base A n cap xs) : BRowOk w ⟨A, n, cap, xs⟩ := ⟨h.rd encB_len, own_nil_cap h⟩
end Go.Proofs.Ytideokbaenkijaa
