/-
  Plain laws: what runs come to, made one: the first cell of each place.
-/
import Derived.Test.YtmabmnkdigdaiaaDoorJSortP
namespace Go.Proofs.YtmabmnkdigdaiaaDoor
open Go.RowKit

/-- A cell of a run, of whose place no earlier run has one. -/
def First (L : List (List Cell)) (x : Cell) : Prop := ∃ (i : Nat) (l : List Cell), L[i]? = some l ∧ x ∈ l ∧ ∀ (j : Nat) (m : List Cell), j < i → L[j]? = some m → ∀ y ∈ m, y.order x ≠ 0

/-- Two lists that rise are the same if they have the same cells. -/
theorem rises_ext : ∀ {a b : List Cell}, Rises a → Rises b → (∀ x, x ∈ a ↔ x ∈ b) → a = b
  | [], [], _, _, _ => rfl
  | [], y :: b, _, _, h => by have := (h y).2 (by simp); cases this
  | x :: a, [], _, _, h => by have := (h x).1 (by simp); cases this
  | x :: a, y :: b, ha, hb, h => by
    have ha1 := List.pairwise_cons.1 ha
    have hb1 := List.pairwise_cons.1 hb
    have hxy : x = y := by
      rcases List.mem_cons.1 ((h x).1 (by simp)) with e | e
      · exact e
      · rcases List.mem_cons.1 ((h y).2 (by simp)) with e2 | e2
        · exact e2.symm
        · have h1 := hb1.1 x e
          have h2 := ha1.1 y e2
          have := order_is.anti x y
          omega
    subst hxy
    have : a = b := rises_ext ha1.2 hb1.2 fun z => by
      constructor
      · intro hz
        rcases List.mem_cons.1 ((h z).1 (by simp [hz])) with e | e
        · subst e
          have := ha1.1 z hz
          have := order_is.refl z
          omega
        · exact e
      · intro hz
        rcases List.mem_cons.1 ((h z).2 (by simp [hz])) with e | e
        · subst e
          have := hb1.1 z hz
          have := order_is.refl z
          omega
        · exact e
    rw [this]

theorem mem_dropWhile {p : Cell → Bool} {l : List Cell} {x : Cell} (h : x ∈ l.dropWhile p) : x ∈ l := (List.dropWhile_sublist p).mem h
theorem merged_first {L : List (List Cell)} {out : List Cell} (h : Merged L out) : (∀ l ∈ L, Rises l) → Rises out ∧ ∀ x, x ∈ out ↔ First L x := by
  induction h with
  | done h1 =>
    intro _
    refine ⟨List.Pairwise.nil, fun x => ⟨fun hx => (by cases hx), fun ⟨i, l, h2, h3, _⟩ => ?_⟩⟩
    rw [h1 l (List.mem_of_getElem? h2)] at h3
    cases h3
  | @step L t c out hb hm ih =>
    intro hs
    obtain ⟨h1, h2⟩ := ih (rises_map hs _)
    have hle := hb.least hs
    have hget : ∀ (i : Nat) (l : List Cell), (nextD c L)[i]? = some l → ∃ m, L[i]? = some m ∧ l = m.dropWhile fun y => decide (y.order c = 0) := fun i l hi => by
      rw [nextD, List.getElem?_map] at hi
      cases hm : L[i]? with
      | none => rw [hm] at hi; cases hi
      | some m => rw [hm] at hi; exact ⟨m, rfl, (Option.some.inj hi).symm⟩
    -- what is left is behind c
    have hgt : ∀ (m : List Cell), m ∈ L → ∀ x ∈ m, x ∈ m.dropWhile (fun y => decide (y.order c = 0)) ↔ c.order x < 0 := fun m hm x hx => by
      have hsm := hs m hm
      cases m with
      | nil => cases hx
      | cons d ys =>
        have hd := hle _ hm d (by simp)
        have hac := order_is.anti c d
        by_cases h0 : d.order c = 0
        · rw [List.dropWhile_cons, if_pos (decide_eq_true h0)]
          have htl : ys.dropWhile (fun y => decide (y.order c = 0)) = ys := by
            cases ys with
            | nil => rfl
            | cons e zs =>
              have h3 := (List.pairwise_cons.1 hsm).1 e (by simp)
              rw [List.dropWhile_cons, if_neg]
              intro h4
              have h4 := of_decide_eq_true h4
              have := order_is.lt_le h3 (c := c) (by omega)
              omega
          rw [htl]
          constructor
          · intro hy
            have := (List.pairwise_cons.1 hsm).1 x hy
            exact order_is.le_lt (b := d) (by omega) this
          · intro hc
            rcases List.mem_cons.1 hx with rfl | hx
            · omega
            · exact hx
        · rw [List.dropWhile_cons, if_neg (by simpa using h0)]
          refine ⟨fun _ => ?_, fun _ => hx⟩
          rcases List.mem_cons.1 hx with rfl | hx
          · omega
          · exact order_is.lt_le (b := d) (by omega) (by have := (List.pairwise_cons.1 hsm).1 x hx; omega)
    have hout : ∀ x ∈ out, c.order x < 0 := fun x hx => by
      obtain ⟨i, l, h3, h4, _⟩ := (h2 x).1 hx
      obtain ⟨m, h5, rfl⟩ := hget i l h3
      exact (hgt m (List.mem_of_getElem? h5) x (mem_dropWhile h4)).1 h4
    refine ⟨List.pairwise_cons.2 ⟨hout, h1⟩, fun x => ?_⟩
    obtain ⟨⟨xs, hxs⟩, hbest⟩ := hb
    rw [List.mem_cons, h2]
    constructor
    · rintro (rfl | ⟨i, l, h3, h4, h5⟩)
      · refine ⟨t, _, hxs, by simp, fun j m hj hjm y hy e => ?_⟩
        cases m with
        | nil => cases hy
        | cons d ys =>
          have h6 := hbest j d ys hjm
          have h7 := hle _ (List.mem_of_getElem? hjm) d (by simp)
          have h8 : d.order x < 0 ∨ d.order x = 0 := by
            rcases List.mem_cons.1 hy with rfl | hy
            · right; exact e
            · left
              exact order_is.lt_le ((List.pairwise_cons.1 (hs _ (List.mem_of_getElem? hjm))).1 y hy) (by omega)
          have := order_is.anti x d
          omega
      · obtain ⟨m, h6, rfl⟩ := hget i l h3
        have hcx := (hgt m (List.mem_of_getElem? h6) x (mem_dropWhile h4)).1 h4
        refine ⟨i, m, h6, mem_dropWhile h4, fun j m' hj hjm y hy e => ?_⟩
        have hcy : c.order y < 0 := order_is.lt_le hcx (by have := order_is.symm e; omega)
        exact h5 j (m'.dropWhile _) hj (by rw [nextD, List.getElem?_map, hjm]; rfl) y ((hgt m' (List.mem_of_getElem? hjm) y hy).2 hcy) e
    · rintro ⟨i, m, h3, h4, h5⟩
      have hcx := hle m (List.mem_of_getElem? h3) x h4
      by_cases h0 : c.order x = 0
      · left
        have hti : ¬ t < i := fun hlt => h5 t _ hlt hxs c (by simp) h0
        cases m with
        | nil => cases h4
        | cons d ys =>
          have h6 := hbest i d ys h3
          have hdx : d.order x ≤ 0 := by
            rcases List.mem_cons.1 h4 with rfl | h4
            · have := order_is.refl x; omega
            · have := (List.pairwise_cons.1 (hs _ (List.mem_of_getElem? h3))).1 x h4; omega
          have hcd : c.order d = 0 := by
            have h7 := order_is.symm h0
            have h8 := order_is.trans d x c hdx (by omega)
            have := order_is.anti c d
            omega
          have hit : i = t := by omega
          subst hit
          rw [hxs] at h3
          injection h3 with h3
          injection h3 with e1 e2
          subst e1; subst e2
          rcases List.mem_cons.1 h4 with rfl | h4
          · rfl
          · have := (List.pairwise_cons.1 (hs _ (List.mem_of_getElem? hxs))).1 x h4; omega
      · right
        have hlt : c.order x < 0 := by omega
        refine ⟨i, _, by rw [nextD, List.getElem?_map, h3]; rfl, (hgt m (List.mem_of_getElem? h3) x h4).2 hlt, fun j m' hj hjm y hy => ?_⟩
        obtain ⟨m'', h6, rfl⟩ := hget j m' hjm
        exact h5 j m'' hj h6 y (mem_dropWhile hy)
end Go.Proofs.YtmabmnkdigdaiaaDoor
