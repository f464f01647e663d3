/-
  store.New, (*Disk).Read, Loose.
-/
import Derived.Test.YtideokbaenkijaaSRenameW
import Derived.Test.YtideokbaenkijaaShelf
import Derived.Carry
namespace Go.Proofs.Ytideokbaenkijaa
open Go.RowKit Go.Maps

theorem new_bad (room : Int) (w : World) (h : room < 0 ∨ 16777216 < room) : Calls Try.prog 20 #[.int .i64 room] w fun e w' => e = .returned (.tuple #[.pointer none, .int .i64 11]) ∧ w' = w := by
  rcases h with h | h
  · go_enter Try.func20, Try.ntmps20
    go_wp2
    go_ret2
    exact ⟨rfl, rfl⟩
  · have h0 : ¬ room < 0 := by omega
    go_enter Try.func20, Try.ntmps20
    go_wp2
    go_ret2
    exact ⟨rfl, rfl⟩

/-- A slice of bytes that may be read: it lies, or there is none. -/
structure Bs (w : World) (v : Value) (base : Nat) (xs : List Int) : Prop where
  is : ∃ A cap, v = .slice A xs.length cap ∧ RdB w A xs.length xs ∧ (A = none → cap = 0) ∧ ∀ a, A = some a → base ≤ a.block
  room : ∀ A n cap, v = .slice A n cap → n ≤ cap
  top : ∀ A n cap, v = .slice A n cap → cap ≤ maxLen
  own : ∃ A cap, v = .slice A xs.length cap ∧ OwnB w base A xs.length cap xs
theorem Bs.below {w w' : World} {v : Value} {base : Nat} {xs : List Int} (h : Bs w v base xs) (hb : Below w.heap.size w w') : Bs w' v base xs := by
  obtain ⟨⟨A, cap, h1, h2, h3, h4⟩, h5, h6, B, cap2, h7, h8⟩ := h
  exact ⟨⟨A, cap, h1, h2.below hb, h3, h4⟩, h5, h6, B, cap2, h7, h8.below hb⟩
theorem Bs.only {w w' : World} {v : Value} {base : Nat} {xs : List Int} {S : Nat → Prop} (h : Bs w v base xs) (ho : Only S w w') (hS : ∀ k, base ≤ k → ¬ S k) : Bs w' v base xs := by
  obtain ⟨⟨A, cap, h1, h2, h3, h4⟩, h5, h6, B, cap2, h7, h8⟩ := h
  exact ⟨⟨A, cap, h1, h2.only ho fun a ha => hS _ (h4 a ha), h3, h4⟩, h5, h6, B, cap2, h7, h8.only ho fun x hx => hS x (own_above h8 x hx)⟩
theorem bs_none (w : World) (base : Nat) : Bs w (.slice none 0 0) base [] :=
  ⟨⟨none, 0, rfl, Rd.nil _ _ _ _, fun _ => rfl, fun a e => nomatch e⟩, (fun A n cap e => by injection e with e1 e2 e3; omega), (fun A n cap e => by injection e with e1 e2 e3; subst e3; exact Nat.zero_le _), none, 0, rfl, Own.nil _ _ _ _ _⟩

theorem own_top {α : Type} {E : TypeId} {sz : Nat} {enc : α → List Value} {w : World} {base n cap : Nat} {A : Option Addr} {xs : List α} (h : Own E sz enc w base A n cap xs) : cap ≤ maxLen := by
  obtain ⟨h0, h1, h2 | ⟨g, cap', cur, h3, h4, h5, h6, h7, _⟩⟩ := h
  · obtain ⟨h2, h3⟩ := h2
    injection h2 with h2 h4 h5
    unfold maxLen; omega
  · injection h3 with h3 _ h8
    subst h8
    exact h7
theorem bclone_calls (A : Option Addr) (n ca : Nat) (xs : List Int) (w : World) (h : RdB w A n xs) (hn : n ≤ 100000000) :
    Calls Try.prog 47 #[.slice A n ca] w fun e w' => (∃ v, e = .returned v ∧ Bs w' v w.heap.size xs) ∧ Below w.heap.size w w' := by
  cases A with
  | none =>
    have hx : xs = [] := by
      cases xs with
      | nil => rfl
      | cons x t =>
        obtain ⟨b, off, e, _⟩ := h.at_ 0 x rfl
        cases e
    subst hx
    obtain rfl : n = 0 := h.len
    refine (Try.bytes_Clone_nil 0 ca w).mono ?_
    rintro e w' ⟨rfl, hw⟩
    obtain rfl : w = w' := hw.symm
    exact ⟨⟨_, rfl, bs_none _ _⟩, Below.refl _ _⟩
  | some a =>
    refine (Try.bytes_Clone_at a n ca xs w h.len.symm (by omega) (fun i hi => ?_)).mono ?_
    · obtain ⟨c, b, off, h1, h2, _, h4⟩ := h.get i hi
      injection h2 with h2
      subst h2
      have := h4 0 _ rfl
      rw [List.getD_eq_getElem?_getD, h1]
      unfold Addr.add
      split
      · rename_i h0; subst h0; simpa using this
      · simpa using this
    · rintro e w' ⟨v, rfl, hrow, hne, hb⟩
      refine ⟨⟨v, rfl, ?_⟩, hb⟩
      obtain ⟨h1, ⟨h2, h3⟩ | ⟨g, cap', cur, h3, h4, h5⟩⟩ := id hrow
      · exact absurd h2 hne
      · subst h3
        have hown : OwnB w' w.heap.size (some ⟨g, 0, none⟩) n cap' xs := ⟨h.len, by rw [flatB]; exact hrow⟩
        rw [h.len] at hown ⊢
        exact ⟨⟨some ⟨g, 0, none⟩, cap', rfl, hown.rd encB_len, (fun e => by cases e), (fun a e => by injection e with e; subst e; exact h4)⟩, (fun A n c e => by injection e with e1 e2 e3; have := own_room hown; omega), (fun A n c e => by injection e with e1 e2 e3; have := own_top hown; omega), some ⟨g, 0, none⟩, cap', rfl, hown⟩

set_option maxHeartbeats 1000000 in
theorem read_calls (S : Nat → Prop) (bd : Nat) (D : DiskD) (name : ByteArray) (w : World) (h : DiskAt S w bd D) (hok : D.Ok) (hs : name.size ≤ maxLen) :
    Calls Try.prog 26 #[.pointer (some ⟨bd, 0, none⟩), .string name] w fun e w' =>
      (∃ v, e = .returned (.tuple #[v, .bool (findD D.files name).isSome]) ∧ Bs w' v w.heap.size (match findD D.files name with | none => [] | some f => f.xs)) ∧ Below w.heap.size w w' := by
  obtain ⟨bm, LA, lc, hh, M, k1, k2, k3, k4, k5⟩ := h
  have hrun := look_run k1.map k3 name hs
  obtain ⟨c0, c1, c2, fz⟩ := k1.cells
  cases hf : findD D.files name with
  | none =>
    rw [hf] at hrun
    clear k1 k2 k3 k4 k5 hf
    unfold ptrOf at hrun
    go_enter Try.func26, Try.ntmps26
    go_wp2
    go_ret2
    exact ⟨⟨_, rfl, bs_none _ _⟩, Below.refl _ _⟩
  | some f =>
    rw [hf] at hrun
    obtain ⟨hfm, rfl⟩ := findD_some hf
    have hfa := k2.at_ f hfm
    obtain ⟨d0, d1, d2, gz⟩ := hfa.cells
    have hlen : f.xs.length ≤ 16777216 := Nat.le_trans (size_mem hfm) (Nat.le_trans hok.fits hok.small)
    have HC := Lib.hid (bclone_calls (hh f.id).1 f.xs.length (hh f.id).2 f.xs w (hfa.own.rd encB_len) (by omega))
    clear k1 k2 k3 k4 k5 hf hfm hok hfa
    unfold ptrOf at hrun
    go_enter Try.func26, Try.ntmps26
    go_wp2_with fail
    refine HC.out.mono ?_
    rintro e w1 ⟨⟨v, rfl, hv⟩, hb⟩
    have HV := Lib.hid hv
    have HB := Lib.hid hb
    clear hv hb HC
    go_wp2_with fail
    go_ret2
    exact ⟨⟨_, rfl, HV.out⟩, HB.out⟩

set_option maxHeartbeats 1000000 in
theorem new_calls (n : Nat) (w : World) (hn : n ≤ 16777216) : Calls Try.prog 20 #[.int .i64 n] w fun e w' => ∃ bd, e = .returned (.tuple #[.pointer (some ⟨bd, 0, none⟩), .int .i64 0]) ∧ DiskAt (fun k => w.heap.size ≤ k) w' bd ⟨[], [], n⟩ ∧ Below w.heap.size w w' := by
  have h0 : ¬ (n : Int) < 0 := by omega
  have h1 : ¬ (n : Int) > 16777216 := by omega
  have hmk := run_makeMap (P := Try.prog) 73 w
  go_enter Try.func20, Try.ntmps20
  go_wp2_with fail
  go_ret2
  refine ⟨_, rfl, ⟨w.heap.size, none, 0, fun _ => (none, 0), .map [], ⟨?_, Own.nil _ _ _ _ _, ?_⟩, ⟨by simp, by simp⟩, ⟨fun k hk => ?_, by simp, rfl⟩, fun k hk => ?_, by simp⟩, ((Below.refl _ _).alloc (Nat.le_refl _) _).alloc (by simp) _⟩
  · rw [show w.heap.size + 1 = (w.alloc (.map #[] 0)).heap.size by simp]; exact heap_alloc_new _ _
  · exact (World.ownsMap_made w Try.prog 9 ptrE).alloc _
  · simp [Maps.has] at hk
  · rcases hk with rfl | rfl | hk
    · simp
    · exact Nat.le_refl _
    · cases hk
end Go.Proofs.Ytideokbaenkijaa
