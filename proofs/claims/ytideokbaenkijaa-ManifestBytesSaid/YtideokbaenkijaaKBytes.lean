/-
  Bytes in slices: one more; all of another slice; what a literal holds.
-/
import Derived.Test.YtideokbaenkijaaJSl
import Derived.Test.YtideokbaenkijaaProg
namespace Go.Proofs.Ytideokbaenkijaa
open Go.RowKit

/-- A byte's cell. -/
def encB (x : Int) : List Value := [.int .u8 x]
theorem encB_len (x : Int) : (encB x).length = 1 := rfl
theorem encB_one (x : Int) : ∀ u ∈ encB x, u.oneCell' = true := by
  intro u hu
  simp only [encB, List.mem_cons, List.not_mem_nil, or_false] at hu
  subst hu; rfl
abbrev RdB := Rd 1 encB
abbrev OwnB := Own 5 1 encB
theorem infoByte : (Try.prog.info? 5).map (fun i => (i.zero, i.size, i.bytes)) = some (some (.int .u8 0), 1, 1) := by kernel_rfl
theorem flatB : ∀ l : List Int, l.flatMap encB = l.map (Value.int .u8)
  | [] => rfl
  | x :: l => by rw [List.flatMap_cons, flatB l]; rfl

/-- append(out, x), x just laid into a block of its own. -/
theorem app_byte {w : World} {ops : Array Oper} {rest : List Oper} {o : Oper} {a : Act} {Q : Exit → Act → World → Prop} (hgd : o.guard = none) (s x : Operand)
    (ho : o.op = .call { callee := .builtin .append, args := #[s, x], argTypes := #[25, 25] }) (c : Int)
    {base n cap nb : Nat} {A : Option Addr} {xs : List Int} (hs : a.eval s = .slice A n cap) (hown : OwnB w base A n cap xs) (hnb : nb = w.heap.size) (hx : a.eval x = .slice (some ⟨nb, 0, none⟩) 1 1) (hn : n ≤ 100000000) (hbase : base ≤ w.heap.size)
    (h : ∀ g cap' w', OwnB w' base (some ⟨g, 0, none⟩) (n + 1) cap' (xs ++ [c]) → Only (fun k => A = some ⟨k, 0, none⟩) w w' → (A = some ⟨g, 0, none⟩ ∨ w.heap.size < g) → g < w'.heap.size →
      wpList Try.prog ops Q rest (a.put o.dst (.slice (some ⟨g, 0, none⟩) (n + 1) cap')) w') : wpList Try.prog ops Q (o :: rest) a (w.alloc (.cells #[.int .u8 c] 5)) := by
  obtain ⟨i0, hi, hz0, hz1, hz2⟩ := info_parts infoByte
  subst hnb
  have hb : Below w.heap.size w (w.alloc (.cells #[.int .u8 c] 5)) := (Below.refl _ _).alloc (Nat.le_refl _) _
  refine append_one hgd s x 25 ho i0 _ 1 Try.underlying25 hi hz0 hz1 hz2 rfl (by omega) encB_len (c := c) hs (hown.below hb) hx (fun j u hj => ?_) (encB_one c) (by omega) (by unfold maxLen; omega) (Nat.le_trans hbase hb.size) ?_
  · rw [World.cell?_alloc_new]; simpa [encB] using hj
  · intro g cap' w' h1 h2 h3 h4
    refine h g cap' w' h1 ((hb.only _).trans h2) (h3.imp id fun h3 => ?_) h4
    simp at h3; omega
/-- What a call made lies from its base on. -/
theorem own_above {α : Type} {enc : α → List Value} {sz : Nat} {E : TypeId} {w : World} {base n cap : Nat} {A : Option Addr} {xs : List α} (h : Own E sz enc w base A n cap xs) : ∀ i, A = some ⟨i, 0, none⟩ → base ≤ i := fun i hi => by
  rcases h.shape with ⟨e, _⟩ | ⟨q, e, e2, _⟩
  · rw [e] at hi; cases hi
  · rw [e] at hi; injection hi with hi; injection hi with hi; omega
end Go.Proofs.Ytideokbaenkijaa
