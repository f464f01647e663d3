/-
  store.right; (*Disk).forget.
-/
import Derived.Test.YtideokbaenkijaaSMem
namespace Go.Proofs.Ytideokbaenkijaa
open Go.RowKit Go.Maps

/-- May a file be called so? -/
def rightB (s : ByteArray) : Bool := decide (1 ≤ s.size) && decide (s.size ≤ 16)
theorem rightn_calls (s : ByteArray) (w : World) : Calls Try.prog 59 #[.string s] w fun e w' => e = .returned (.bool (rightB s)) ∧ w' = w := by
  by_cases h0 : s.size = 0
  · obtain ⟨s1, s2⟩ := str_nil h0
    have H0 := Lib.hid h0
    clear h0
    go_enter Try.func59, Try.ntmps59
    go_wp2
    go_ret
    exact ⟨ret_bool (by rw [rightB, H0.out]; rfl), rfl⟩
  · obtain ⟨s1, s2⟩ := str_ne h0
    by_cases h8 : s.size ≤ 16
    · have h8' : (s.size : Int) ≤ 16 := by omega
      go_enter Try.func59, Try.ntmps59
      go_wp2
      go_ret
      exact ⟨ret_bool (by rw [rightB, decide_eq_true (p := 1 ≤ s.size) (by omega), decide_eq_true h8]; simp), rfl⟩
    · have h8' : ¬ (s.size : Int) ≤ 16 := by omega
      go_enter Try.func59, Try.ntmps59
      go_wp2
      go_ret
      exact ⟨ret_bool (by rw [rightB, decide_eq_true (p := 1 ≤ s.size) (by omega), decide_eq_false h8]; rfl), rfl⟩

/-- What a disk's own calls may turn, its files aside. -/
def Mine (bd bm : Nat) (LA : Option Addr) (k : Nat) : Prop := k = bd ∨ k = bm ∨ LA = some ⟨k, 0, none⟩

set_option maxHeartbeats 1000000 in
theorem forget_calls (bd bm lc limit id : Nat) (LA : Option Addr) (M : DataW Unit) (l : List (Nat × Nat)) (w : World) (h : Core w bd bm LA lc M l limit) (h1 : ∀ p ∈ l, Alive w p.1) (h2 : Alive w id) (hn : l.length ≤ 1000000) :
    Calls Try.prog 61 #[.pointer (some ⟨bd, 0, none⟩), .pointer (some ⟨id, 0, none⟩)] w fun e w' => e = .returned (.tuple #[]) ∧ Core w' bd bm LA lc M (restD id l) limit ∧ Only (Mine bd bm LA) w w' := by
  obtain ⟨hb, hx⟩ := one_box w #[.pointer (some ⟨id, 0, none⟩)] 82
  have hcore := h.below hb
  obtain ⟨c0, c1, c2, fz⟩ := hcore.cells
  have hg : ∀ g, LA = some ⟨g, 0, none⟩ → g ≠ bd ∧ bm ≠ g ∧ g < w.heap.size := fun g e => by
    subst e
    refine ⟨fun c => own_ne h.own h.head (by decide) c.symm, own_ne_map h.own h.map, ?_⟩
    rcases h.own.shape with ⟨hA, _⟩ | ⟨q, hA, _, hq⟩
    · cases hA
    · injection hA with hA; injection hA with hA; omega
  have hmb : bm ≠ bd := fun e => map_ne h.map h.head e.symm
  have HD := Lib.hid (delf_calls LA l.length lc w.heap.size id l _ hcore.own (hx 0 _ rfl) (fun e => by have := (hg _ e).2.2; omega) (fun p hp => (h1 p hp).below hb) (h2.below hb) hn)
  have HC := Lib.hid hcore
  have HG := Lib.hid hg
  have HB := Lib.hid hb
  clear h h1 h2 hx hcore hg hb
  go_enter Try.func61, Try.ntmps61
  go_wp2_with fail
  refine HD.out.mono ?_
  clear HD
  rintro e w2 ⟨⟨m, rfl, ho⟩, hon⟩
  have hS : ¬ LA = some ⟨bd, 0, none⟩ := fun e => (HG.out bd e).1 rfl
  have hcell1 := hon.cell c1 hS
  have hhead := hon.keep HC.out.head hS
  have hfz : w2.frozen? ⟨bd, 1, none⟩ = false := Lib.frozen_of_heap hhead 1
  have HO := Lib.hid ho
  have HON := Lib.hid hon
  have HH := Lib.hid hhead
  have HMB := Lib.hid hmb
  clear ho hon hhead hmb c0 c1 c2 fz
  go_wp2_with fail
  go_end0
  have hm : m = (restD id l).length := HO.out.1
  subst hm
  have ho2 := only_setCell w2 ⟨bd, 1, none⟩ (.slice LA (restD id l).length lc)
  refine ⟨rfl, ⟨?_, ?_, ?_⟩, ?_⟩
  · exact heap_setCell_same _ bd 1 _ _ _ HH.out
  · exact HO.out.only ho2 fun g e => (HG.out g e).1
  · exact map_only (map_only HC.out.map HON.out fun e => (HG.out bm e).2.1 rfl) ho2 HMB.out
  · exact ((HB.out.only _).trans (HON.out.mono fun k _ hk => .inr (.inr hk))).trans (ho2.mono fun k _ hk => .inl hk)
end Go.Proofs.Ytideokbaenkijaa
