/-
  Plain: the order of cells is an order; runs that rise.
-/
import Derived.Test.YtndmlldaebdnmaaDoorJOrder
import Derived.Test.YtndmlldaebdnmaaDoorJRight
namespace Go.RowKit

/-- A three-way comparison by a total preorder. -/
structure IsCmp {α : Type} (f : α → α → Int) : Prop where
  anti : ∀ a b, f b a = - f a b
  trans : ∀ a b c, f a b ≤ 0 → f b c ≤ 0 → f a c ≤ 0

namespace IsCmp
variable {α β : Type} {f g : α → α → Int}
theorem refl (h : IsCmp f) (a : α) : f a a = 0 := by have := h.anti a a; omega
theorem lt_le (h : IsCmp f) {a b c : α} (h1 : f a b < 0) (h2 : f b c ≤ 0) : f a c < 0 := by
  have h3 := h.trans a b c (by omega) h2
  rcases Int.lt_or_eq_of_le h3 with h4 | h4
  · exact h4
  · have h5 := h.trans b c a h2 (by have := h.anti a c; omega)
    have := h.anti a b
    omega
theorem le_lt (h : IsCmp f) {a b c : α} (h1 : f a b ≤ 0) (h2 : f b c < 0) : f a c < 0 := by
  have h3 := h.trans a b c h1 (by omega)
  rcases Int.lt_or_eq_of_le h3 with h4 | h4
  · exact h4
  · have h5 := h.trans c a b (by have := h.anti a c; omega) h1
    have := h.anti b c
    omega
theorem eq_eq (h : IsCmp f) {a b c : α} (h1 : f a b = 0) (h2 : f b c = 0) : f a c = 0 := by
  have h3 := h.trans a b c (by omega) (by omega)
  have h4 := h.trans c b a (by have := h.anti b c; omega) (by have := h.anti a b; omega)
  have := h.anti a c
  omega
theorem symm (h : IsCmp f) {a b : α} (h1 : f a b = 0) : f b a = 0 := by have := h.anti a b; omega
/-- What is alike stands alike to all. -/
theorem left (h : IsCmp f) {a b : α} (h1 : f a b = 0) (c : α) : (f a c < 0 ↔ f b c < 0) ∧ (f a c = 0 ↔ f b c = 0) :=
  ⟨⟨fun h2 => h.le_lt (by have := h.symm h1; omega) h2, fun h2 => h.le_lt (by omega) h2⟩, ⟨fun h2 => h.eq_eq (h.symm h1) h2, fun h2 => h.eq_eq h1 h2⟩⟩
theorem right (h : IsCmp f) {a b : α} (h1 : f a b = 0) (c : α) : (f c a < 0 ↔ f c b < 0) ∧ (f c a = 0 ↔ f c b = 0) :=
  ⟨⟨fun h2 => h.lt_le h2 (by omega), fun h2 => h.lt_le h2 (by have := h.symm h1; omega)⟩, ⟨fun h2 => h.eq_eq h2 h1, fun h2 => h.eq_eq h2 (h.symm h1)⟩⟩
theorem on (h : IsCmp f) (k : β → α) : IsCmp fun a b => f (k a) (k b) := ⟨fun _ _ => h.anti _ _, fun _ _ _ => h.trans _ _ _⟩
theorem flip (h : IsCmp f) : IsCmp fun a b => f b a := ⟨fun _ _ => h.anti _ _, fun _ _ _ h1 h2 => h.trans _ _ _ h2 h1⟩
theorem zero : IsCmp fun (_ _ : α) => 0 := ⟨fun _ _ => rfl, fun _ _ _ _ _ => Int.le_refl _⟩
/-- First by f, then by g. -/
theorem lex (h : IsCmp f) (k : IsCmp g) : IsCmp fun a b => if f a b = 0 then g a b else f a b := by
  refine ⟨fun a b => ?_, fun a b c h1 h2 => ?_⟩
  · have := h.anti a b
    split <;> split <;> first | omega | exact k.anti a b
  · by_cases ha : f a b = 0
    · rw [if_pos ha] at h1
      have e := (h.left ha c)
      by_cases hb : f b c = 0
      · rw [if_pos hb] at h2
        rw [if_pos (e.2.2 hb)]
        exact k.trans a b c h1 h2
      · rw [if_neg hb] at h2
        have : f a c < 0 := e.1.2 (by omega)
        rw [if_neg (by omega)]; omega
    · rw [if_neg ha] at h1
      have h3 : f b c ≤ 0 := by
        by_cases hb : f b c = 0
        · omega
        · rwa [if_neg hb] at h2
      have : f a c < 0 := h.lt_le (by omega) h3
      rw [if_neg (by omega)]; omega
end IsCmp
end Go.RowKit
namespace Go.Proofs.YtndmlldaebdnmaaDoor
open Go.RowKit

theorem cmpI_is : IsCmp cmpI := by
  refine ⟨fun a b => ?_, fun a b c => ?_⟩
  · unfold cmpI; split <;> split <;> omega
  · unfold cmpI; split <;> split <;> split <;> omega
theorem cmpI_zero {a b : Int} : cmpI a b = 0 ↔ a = b := by unfold cmpI; split <;> (try split) <;> omega
theorem cmpI_neg {a b : Int} : cmpI a b < 0 ↔ a < b := by unfold cmpI; split <;> (try split) <;> omega

theorem bytes_anti : ∀ a b : List UInt8, Lib.compareBytes b a = - Lib.compareBytes a b
  | [], [] => rfl
  | [], _ :: _ => rfl
  | _ :: _, [] => rfl
  | a :: s, b :: t => by
    have := bytes_anti s t
    simp only [Lib.compareBytes]
    split <;> split <;> simp_all [UInt8.lt_iff_toNat_lt] <;> omega
theorem bytes_trans : ∀ a b c : List UInt8, Lib.compareBytes a b ≤ 0 → Lib.compareBytes b c ≤ 0 → Lib.compareBytes a c ≤ 0
  | [], _, [] => by simp [Lib.compareBytes]
  | [], _, _ :: _ => by simp [Lib.compareBytes]
  | _ :: _, [], _ => by simp [Lib.compareBytes]
  | _ :: _, _ :: _, [] => by simp [Lib.compareBytes]
  | a :: s, b :: t, c :: u => by
    have := bytes_trans s t u
    simp only [Lib.compareBytes, UInt8.lt_iff_toNat_lt]
    split <;> split <;> split <;> (try split) <;> (try split) <;> (try split) <;> intros <;> first | omega | (apply this <;> assumption)
theorem bytes_eq : ∀ a b : List UInt8, Lib.compareBytes a b = 0 → a = b
  | [], [] => fun _ => rfl
  | [], _ :: _ => fun h => by simp [Lib.compareBytes] at h
  | _ :: _, [] => fun h => by simp [Lib.compareBytes] at h
  | a :: s, b :: t => fun h => by
    simp only [Lib.compareBytes, UInt8.lt_iff_toNat_lt] at h
    split at h
    · omega
    · split at h
      · omega
      · have : a = b := UInt8.toNat_inj.1 (by omega)
        rw [this, bytes_eq s t h]
theorem cmpS_is : IsCmp cmpS := ⟨fun _ _ => bytes_anti _ _, fun _ _ _ => bytes_trans _ _ _⟩
theorem cmpS_zero {a b : ByteArray} : cmpS a b = 0 ↔ a = b := by
  constructor
  · intro h
    have := bytes_eq _ _ h
    cases a with | mk a => cases b with | mk b =>
    simp at this; rw [this]
  · intro h; rw [h]; exact cmpS_is.refl b

theorem order_is : IsCmp Cell.order := by
  have h := (cmpS_is.on Cell.row).lex ((cmpS_is.on Cell.fam).lex ((cmpI_is.on wholeI).lex ((cmpS_is.on Cell.qual).lex (((cmpI_is.on Cell.time).flip).lex (((cmpI_is.on Cell.kind).flip).lex IsCmp.zero)))))
  exact h
/-- A run that rises. -/
def Rises (l : List Cell) : Prop := l.Pairwise fun a b => a.order b < 0
/-- Two lists that rise are the same if they have the same cells. -/
theorem rises_ext : ∀ {a b : List Cell}, Rises a → Rises b → (∀ x, x ∈ a ↔ x ∈ b) → a = b
  | [], [], _, _, _ => rfl
  | [], y :: b, _, _, h => by have := (h y).2 (by simp); cases this
  | x :: a, [], _, _, h => by have := (h x).1 (by simp); cases this
  | x :: a, y :: b, ha, hb, h => by
    have ha1 := List.pairwise_cons.1 ha
    have hb1 := List.pairwise_cons.1 hb
    have hxy : x = y := by
      rcases List.mem_cons.1 ((h x).1 (by simp)) with e | e
      · exact e
      · rcases List.mem_cons.1 ((h y).2 (by simp)) with e2 | e2
        · exact e2.symm
        · have h1 := hb1.1 x e
          have h2 := ha1.1 y e2
          have := order_is.anti x y
          omega
    subst hxy
    have : a = b := rises_ext ha1.2 hb1.2 fun z => by
      constructor
      · intro hz
        rcases List.mem_cons.1 ((h z).1 (by simp [hz])) with e | e
        · subst e
          have := ha1.1 z hz
          have := order_is.refl z
          omega
        · exact e
      · intro hz
        rcases List.mem_cons.1 ((h z).2 (by simp [hz])) with e | e
        · subst e
          have := hb1.1 z hz
          have := order_is.refl z
          omega
        · exact e
    rw [this]
end Go.Proofs.YtndmlldaebdnmaaDoor
