/-
  Plain: what is read of some bytes is read of more; no cell's bytes begin with another's; lists come back from their bytes.
-/
import Derived.Test.YtonghiaocpenaaaDoorKLawP
namespace Go.Proofs.YtonghiaocpenaaaDoor
open Go.RowKit

theorem read_more : ∀ (xs out q : List Int) {t : Option (List Int)} {r : List Int}, readV out xs = some (t, r) → readV out (xs ++ q) = some (t, r ++ q)
  | [], out, q, t, r, h => by simp [readV] at h
  | [c], out, q, t, r, h => by
    by_cases hc : c = 0
    · subst hc; simp [readV] at h
    · rw [readV_plain hc] at h; simp [readV] at h
  | c :: d :: xs, out, q, t, r, h => by
    by_cases hc : c = 0
    · subst hc
      rw [readV_mark, readZ] at h
      rw [List.cons_append, readV_mark, List.cons_append, readZ]
      by_cases h1 : d = 1
      · rw [if_pos h1] at h ⊢
        injection h with h; injection h with h2 h3
        subst h2; subst h3; rfl
      · rw [if_neg h1] at h ⊢
        by_cases h0 : d = 0
        · rw [if_pos h0] at h ⊢
          by_cases ho : out = []
          · rw [if_pos ho] at h ⊢
            injection h with h; injection h with h2 h3
            subst h2; subst h3; rfl
          · rw [if_neg ho] at h; cases h
        · rw [if_neg h0] at h ⊢
          by_cases hf : d = 255
          · rw [if_pos hf] at h ⊢
            exact read_more xs _ q h
          · rw [if_neg hf] at h; cases h
    · rw [readV_plain hc] at h
      rw [List.cons_append, readV_plain hc]
      exact read_more (d :: xs) _ q h
theorem take_more : ∀ (xs : List Int) (i acc : Nat) (q : List Int) {v : Nat} {r : List Int}, takeV i acc xs = some (v, r) → takeV i acc (xs ++ q) = some (v, r ++ q)
  | [], i, acc, q, v, r, h => by simp [takeV] at h
  | c :: xs, i, acc, q, v, r, h => by
    rw [takeV] at h
    rw [List.cons_append, takeV]
    by_cases h9 : 9 ≤ i
    · rw [if_pos h9] at h; cases h
    · rw [if_neg h9] at h ⊢
      by_cases h128 : 128 ≤ c
      · rw [if_pos h128] at h ⊢
        exact take_more xs _ _ q h
      · rw [if_neg h128] at h ⊢
        by_cases h0 : 0 < i ∧ c = 0
        · rw [if_pos h0] at h; cases h
        · rw [if_neg h0] at h ⊢
          injection h with h; injection h with h1 h2
          subst h1; subst h2; rfl
theorem time_more {xs q r : List Int} {t : Int} (h : timeV xs = some (t, r)) : timeV (xs ++ q) = some (t, r ++ q) := by
  unfold timeV at h ⊢
  by_cases h8 : 8 ≤ xs.length
  · rw [if_pos h8] at h
    injection h with h; injection h with h1 h2
    rw [if_pos (by rw [List.length_append]; omega), List.take_append_of_le_length h8, List.drop_append_of_le_length h8, h1, h2]
  · rw [if_neg h8] at h; cases h
theorem taken_cut {k : Int} {p q : List Int} {u v : Int × ByteArray} (h : takenV k p = some u) (h' : takenV k (p ++ q) = some v) : q = [] := by
  unfold takenV at h h'
  by_cases k1 : k = 1
  · rw [if_pos k1] at h h'
    split at h
    · rename_i h8
      split at h'
      · rename_i h9
        rw [List.length_append] at h9
        exact List.eq_nil_of_length_eq_zero (by omega)
      · cases h'
    · cases h
  rw [if_neg k1] at h h'
  by_cases k5 : k = 5
  · rw [if_pos k5] at h h'
    unfold fromV at h h'
    split at h
    · rename_i h8
      split at h'
      · rename_i h9
        have := h9.1
        rw [List.length_append] at this
        exact List.eq_nil_of_length_eq_zero (by omega)
      · cases h'
    · cases h
  rw [if_neg k5] at h h'
  by_cases k4 : k = 4
  · rw [if_pos k4] at h h'
    match p, q with
    | _, [] => rfl
    | [], y :: q => simp at h
    | [x], y :: q => simp at h'
    | x :: x2 :: p, y :: q => simp at h
  rw [if_neg k4] at h h'
  split at h
  · rename_i t ht
    rw [read_more _ _ q ht] at h'
    cases q with
    | nil => rfl
    | cons y q => simp at h'
  · cases h
theorem val_cut {p q : List Int} {u v : Int × Int × ByteArray} (h : valV p = some u) (h' : valV (p ++ q) = some v) : q = [] := by
  cases p with
  | nil => simp [valV] at h
  | cons k r =>
    rw [List.cons_append] at h'
    unfold valV at h h'
    obtain ⟨x, hx, _⟩ := Option.map_eq_some_iff.1 h
    obtain ⟨y, hy, _⟩ := Option.map_eq_some_iff.1 h'
    exact taken_cut hx hy
/-- A cell's bytes that are cut are no cell's. -/
theorem cell_cut {c : Cell} (hok : c.ok = true) (hn : isInt c.vn) {p q : List Int} (he : p ++ q = encL c) (hq : q ≠ []) : cellV p = none := by
  have hW := cellW_back c hok hn
  cases hp : cellV p with
  | none => rfl
  | some d =>
    exfalso
    have ht := ok_parts hok
    unfold cellV at hp
    obtain ⟨⟨row, r1⟩, h1, hp⟩ := Option.bind_eq_some_iff.1 hp
    obtain ⟨⟨fam, r2⟩, h2, hp⟩ := Option.bind_eq_some_iff.1 hp
    obtain ⟨⟨qual, r3⟩, h3, hp⟩ := Option.bind_eq_some_iff.1 hp
    simp only at h2 h3 hp
    split at hp
    case isFalse => cases hp
    obtain ⟨⟨t, r⟩, h4, hp⟩ := Option.bind_eq_some_iff.1 hp
    obtain ⟨kb, h5, hp⟩ := Option.bind_eq_some_iff.1 hp
    obtain ⟨v, h6, hp⟩ := Option.bind_eq_some_iff.1 hp
    simp only at h5 h6 hp
    obtain ⟨tl, rfl⟩ : ∃ tl, r = kb :: tl := by
      cases r with
      | nil => cases h5
      | cons x tl => injection h5 with h5; subst h5; exact ⟨tl, rfl⟩
    simp only [List.tail_cons] at h6 hp
    have g1 := read_more _ _ q h1
    have g2 := read_more _ _ q h2
    have g3 := read_more _ _ q h3
    have g4 := time_more (q := q) h4
    have e : encL c = escL c.row ++ (escL c.fam ++ ((if c.kind = 4 then [0, 0] else escL c.qual) ++ (eightL (9223372036854775807 - c.time) ++ ([255 - c.kind] ++ (if c.kind = 1 then valL c.vk c.vn c.vs else []))))) := by
      unfold encL keyL
      simp only [List.append_assoc]
    rw [he, e, read_esc] at g1
    injection g1 with g1; injection g1 with _ g1
    rw [← g1, read_esc] at g2
    injection g2 with g2; injection g2 with _ g2
    have hqv : ∃ qq, readV [] ((if c.kind = 4 then [0, 0] else escL c.qual) ++ (eightL (9223372036854775807 - c.time) ++ ([255 - c.kind] ++ (if c.kind = 1 then valL c.vk c.vn c.vs else [])))) = some (qq, eightL (9223372036854775807 - c.time) ++ ([255 - c.kind] ++ (if c.kind = 1 then valL c.vk c.vn c.vs else []))) := by
      by_cases h4 : c.kind = 4
      · rw [if_pos h4]
        exact ⟨none, by show readV [] (0 :: 0 :: _) = _; rw [readV_mark, readZ, if_neg (by decide), if_pos rfl, if_pos rfl]; rfl⟩
      · rw [if_neg h4]
        exact ⟨_, read_esc _ _⟩
    obtain ⟨qq, hqq⟩ := hqv
    rw [← g2, hqq] at g3
    injection g3 with g3; injection g3 with _ g3
    rw [← g3, time_eight c.time ht.2.2.2.2.1 (by have := ht.2.2.2.2.2.1; omega)] at g4
    injection g4 with g4; injection g4 with _ g4
    rw [List.cons_append, List.cons_append, List.nil_append] at g4
    injection g4 with g4 g5
    have hk1 : c.kind = 1 := by
      by_cases hk : c.kind = 1
      · exact hk
      · rw [if_neg hk] at g5
        have := (List.append_eq_nil_iff.1 g5.symm).2
        exact absurd this hq
    rw [if_pos hk1] at g5 hW
    split at hp
    case isFalse => cases hp
    rename_i hdok
    have hdk : (255 : Int) - kb = 1 := by omega
    cases tl with
    | nil =>
      unfold cellW at h6
      rw [if_pos rfl] at h6
      injection h6 with h6
      subst h6
      have h0 : valOk 0 0 ⟨#[]⟩ = true := val_of_put hdok.1 hdk
      exact absurd h0 (by decide)
    | cons x tl =>
      unfold cellW at h6 hW
      rw [if_neg (by simp)] at h6
      rw [if_neg (by unfold valL; simp), g5] at hW
      exact hq (val_cut h6 hW)

/-- A list's bytes. -/
def rowsL : List (List Int) → List Int
  | [] => []
  | b :: l => vlq b.length ++ (b ++ rowsL l)
def listL (l : List (List Int)) : List Int := vlq l.length ++ rowsL l
/-- n rows of bytes, and what is left. -/
def goV : Nat → List Int → Option (List (List Int) × List Int)
  | 0, xs => some ([], xs)
  | n + 1, xs => match takeV 0 0 xs with
    | some (k, t) => if k ≤ t.length then (goV n (t.drop k)).map fun p => (t.take k :: p.1, p.2) else none
    | none => none
def partsV (xs : List Int) : Option (List (List Int)) := match takeV 0 0 xs with
  | some (n, r) => match goV n r with
    | some (ps, []) => some ps
    | _ => none
  | none => none
theorem go_rows : ∀ (l : List (List Int)) (r : List Int), (∀ b ∈ l, b.length < 9223372036854775808) → goV l.length (rowsL l ++ r) = some (l, r)
  | [], r, _ => rfl
  | b :: l, r, h => by
    have hb := h b (by simp)
    rw [List.length_cons, goV, rowsL, List.append_assoc, take_num hb]
    simp only
    rw [if_pos (by rw [List.length_append, List.length_append]; omega), List.append_assoc, List.drop_left, List.take_left, go_rows l r (fun x hx => h x (List.mem_cons_of_mem _ hx))]
    rfl
theorem parts_list (l : List (List Int)) (hl : l.length < 9223372036854775808) (h : ∀ b ∈ l, b.length < 9223372036854775808) : partsV (listL l) = some l := by
  unfold partsV listL
  rw [take_num hl]
  have := go_rows l [] h
  rw [List.append_nil] at this
  simp only
  rw [this]
theorem go_more : ∀ (n : Nat) {p : List Int} (q : List Int) {ps : List (List Int)} {r : List Int}, goV n p = some (ps, r) → goV n (p ++ q) = some (ps, r ++ q)
  | 0, p, q, ps, r, h => by
    injection h with h; injection h with h1 h2
    subst h1; subst h2; rfl
  | n + 1, p, q, ps, r, h => by
    rw [goV] at h ⊢
    cases ht : takeV 0 0 p with
    | none => rw [ht] at h; cases h
    | some x =>
      obtain ⟨k, t⟩ := x
      rw [ht] at h
      rw [take_more _ _ _ q ht]
      simp only at h ⊢
      by_cases hk : k ≤ t.length
      · rw [if_pos hk] at h
        rw [if_pos (by rw [List.length_append]; omega), List.take_append_of_le_length hk, List.drop_append_of_le_length hk]
        obtain ⟨⟨qs, r'⟩, h1, h2⟩ := Option.map_eq_some_iff.1 h
        rw [go_more n q h1]
        injection h2 with h2 h3
        subst h2; subst h3; rfl
      · rw [if_neg hk] at h; cases h
theorem parts_cut {p q : List Int} {u v : List (List Int)} (h : partsV p = some u) (h' : partsV (p ++ q) = some v) : q = [] := by
  unfold partsV at h h'
  cases ht : takeV 0 0 p with
  | none => rw [ht] at h; cases h
  | some x =>
    obtain ⟨n, r⟩ := x
    rw [ht] at h
    rw [take_more _ _ _ q ht] at h'
    simp only at h h'
    cases hg : goV n r with
    | none => rw [hg] at h; cases h
    | some y =>
      obtain ⟨ps, r'⟩ := y
      rw [hg] at h
      rw [go_more n q hg] at h'
      cases r' with
      | cons z r' => cases h
      | nil =>
        cases q with
        | nil => rfl
        | cons y q => cases h'
end Go.Proofs.YtonghiaocpenaaaDoor
