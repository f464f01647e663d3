/-
  (*Disk).Sync.
-/
import Derived.Test.YtideokbaenkijaaSDisk
namespace Go.Proofs.Ytideokbaenkijaa
open Go.RowKit Go.Maps

/-- What a step on one file may turn. -/
def Its (id : Nat) (A : Option Addr) (k : Nat) : Prop := k = id ∨ A = some ⟨k, 0, none⟩
theorem Core.file {w w' : World} {bd bm lc limit cap : Nat} {LA A : Option Addr} {M : DataW Unit} {l : List (Nat × Nat)} {f : FileD} (h : Core w bd bm LA lc M l limit) (hf : FileAt w f A cap) (ho : Only (Its f.id A) w w') : Core w' bd bm LA lc M l limit := by
  refine h.only ho ?_ ?_ ?_
  · rintro (e | e)
    · exact block_ne h.head hf.head (by decide) e
    · have := hf.own
      rw [e] at this
      exact own_ne this h.head (by decide) rfl
  · rintro (e | e)
    · exact map_ne h.map hf.head e.symm
    · have := hf.own
      rw [e] at this
      exact own_ne_map this h.map rfl
  · intro g hg
    have hl := h.own
    rw [hg] at hl
    rintro (e | e)
    · exact own_ne hl hf.head (by decide) e.symm
    · have := hf.own
      rw [e] at this
      exact own_ne_own this hl (by decide) rfl
theorem idU {g : FileD → FileD} (hg : ∀ f, (g f).id = f.id) (id : Nat) (f : FileD) : (if f.id = id then g f else f).id = f.id := by
  split
  · exact hg f
  · rfl
theorem Files.upd {w w' : World} {h : Nat → Option Addr × Nat} {fs : List FileD} (hf : Files w h fs) (hi : fs.Pairwise fun a b => a.id ≠ b.id) {f : FileD} (hm : f ∈ fs) {g : FileD → FileD} (hg : ∀ f, (g f).id = f.id) {A' : Option Addr} {cap' : Nat} (hnew : FileAt w' (g f) A' cap')
    (ho : Only (Its f.id (h f.id).1) w w') (hA : ∀ r, A' = some ⟨r, 0, none⟩ → (h f.id).1 = some ⟨r, 0, none⟩ ∨ w.heap.size ≤ r) : Files w' (fun k => if k = f.id then (A', cap') else h k) (updD f.id g fs) := by
  have key : ∀ q ∈ fs, q.id ≠ f.id → ∀ r, (h q.id).1 = some ⟨r, 0, none⟩ → A' ≠ some ⟨r, 0, none⟩ := fun q hq hne r hr e => by
    rcases hA r e with h1 | h1
    · exact hf.apart q hq f hm hne r hr h1
    · have := (hf.at_ q hq).own
      rw [hr] at this
      have := own_lt this
      omega
  constructor
  · intro q hq
    obtain ⟨p, hp, rfl⟩ := mem_updD hq
    by_cases e : p.id = f.id
    · have := pair_inj (g := FileD.id) hi hp hm e
      subst this
      rw [if_pos rfl, hg, if_pos rfl]
      exact hnew
    · rw [if_neg e, if_neg e]
      refine (hf.at_ p hp).only ho ?_ ?_
      · rintro (c | c)
        · exact e c
        · have := (hf.at_ f hm).own
          rw [c] at this
          exact own_ne this (hf.at_ p hp).head (by decide) rfl
      · intro r hr
        have hl := (hf.at_ p hp).own
        rw [hr] at hl
        rintro (c | c)
        · exact own_ne hl (hf.at_ f hm).head (by decide) c.symm
        · exact hf.apart p hp f hm e r hr c
  · intro q hq p hp hne r hr
    obtain ⟨q', hq', rfl⟩ := mem_updD hq
    obtain ⟨p', hp', rfl⟩ := mem_updD hp
    rw [idU hg] at hr hne
    rw [idU hg] at hne ⊢
    by_cases e : q'.id = f.id
    · rw [if_pos e] at hr
      have e2 : p'.id ≠ f.id := fun c => hne (e.trans c.symm)
      rw [if_neg e2]
      intro c
      exact key p' hp' e2 r c hr
    · rw [if_neg e] at hr
      by_cases e2 : p'.id = f.id
      · rw [if_pos e2]
        exact key q' hq' e r hr
      · rw [if_neg e2]
        exact hf.apart q' hq' p' hp' hne r hr
theorem Files.alive {w : World} {h : Nat → Option Addr × Nat} {D : DiskD} (hf : Files w h D.files) (hok : D.Ok) : ∀ p ∈ D.loose, Alive w p.1 := fun p hp => by
  obtain ⟨f, hm, e⟩ := hok.known p hp
  rw [← e]
  exact (hf.at_ f hm).alive

theorem Alive.set {w : World} {k : Nat} (h : Alive w k) (b i : Nat) (v : Value) : Alive (w.setCell ⟨b, i, none⟩ v) k := by
  obtain ⟨cs, h⟩ := h
  by_cases e : k = b
  · subst e
    exact ⟨_, heap_setCell_same w k i cs _ v h⟩
  · exact ⟨cs, (heap_setCell_other w ⟨b, i, none⟩ k v e).trans h⟩
def DiskD.sync (D : DiskD) (name : ByteArray) : DiskD := match findD D.files name with
  | none => D
  | some f => D.last f.id
set_option maxHeartbeats 1000000 in
theorem sync_calls (S : Nat → Prop) (bd : Nat) (D : DiskD) (name : ByteArray) (w : World) (h : DiskAt S w bd D) (hok : D.Ok) (hl : D.loose.length ≤ 1000000) (hs : name.size ≤ maxLen) :
    Calls Try.prog 46 #[.pointer (some ⟨bd, 0, none⟩), .string name] w fun e w' => e = .returned (.int .i64 (goneE D.files name)) ∧ DiskAt S w' bd (D.sync name) ∧ Only S w w' := by
  obtain ⟨bm, LA, lc, hh, M, k1, k2, k3, k4, k5⟩ := h
  have hrun := look_run k1.map k3 name hs
  obtain ⟨c0, c1, c2, fz⟩ := k1.cells
  cases hf : findD D.files name with
  | none =>
    rw [hf] at hrun
    have HL : Hid (DiskAt S w bd D) := ⟨bm, LA, lc, hh, M, k1, k2, k3, k4, k5⟩
    have HF := Lib.hid hf
    clear k1 k2 k3 k4 k5 hf
    unfold ptrOf at hrun
    go_enter Try.func46, Try.ntmps46
    go_wp2
    go_ret
    unfold goneE DiskD.sync
    rw [HF.out]
    exact ⟨rfl, HL.out, Only.refl _ _⟩
  | some f =>
    rw [hf] at hrun
    obtain ⟨hfm, rfl⟩ := findD_some hf
    obtain ⟨d0, d1, d2, gz⟩ := (k2.at_ f hfm).cells
    have hlen : f.xs.length ≤ 16777216 := Nat.le_trans (size_mem hfm) (Nat.le_trans hok.fits hok.small)
    have HK1 := Lib.hid k1
    have HK2 := Lib.hid k2
    have HK3 := Lib.hid k3
    have HK4 := Lib.hid k4
    have HK5 := Lib.hid k5
    have HF := Lib.hid hf
    have HFM := Lib.hid hfm
    have HOK := Lib.hid hok
    clear k1 k2 k3 k4 k5 hf hfm hok
    unfold ptrOf at hrun
    go_enter Try.func46, Try.ntmps46
    go_wp2_with fail
    have hw1 : Only (Its f.id (hh f.id).1) w ((w.setCell ⟨f.id, 1, none⟩ (.int .i64 f.xs.length)).setCell ⟨f.id, 2, none⟩ (.bool true)) :=
      ((only_setCell w ⟨f.id, 1, none⟩ _).trans (only_setCell _ ⟨f.id, 2, none⟩ _)).mono fun k _ hk => .inl hk
    have hfa := HK2.out.at_ f HFM.out
    have hnew : FileAt ((w.setCell ⟨f.id, 1, none⟩ (.int .i64 f.xs.length)).setCell ⟨f.id, 2, none⟩ (.bool true)) (lastF f) (hh f.id).1 (hh f.id).2 :=
      ⟨heap_setCell_same _ f.id 2 _ _ _ (heap_setCell_same w f.id 1 _ _ _ hfa.head), hfa.own.only ((only_setCell w ⟨f.id, 1, none⟩ _).trans (only_setCell _ ⟨f.id, 2, none⟩ _)) fun g hg e => by
        have := hfa.own
        rw [hg] at this
        exact own_ne this hfa.head (by decide) e.symm⟩
    have hfiles := HK2.out.upd HOK.out.ids HFM.out lastF_keeps.id hnew hw1 (fun r hr => .inl hr)
    have hcore := HK1.out.file hfa hw1
    have hfo := forget_calls bd bm lc D.limit f.id LA M D.loose _ hcore (fun p hp => ((HK2.out.alive HOK.out p hp).set _ _ _).set _ _ _) ((hfa.alive.set _ _ _).set _ _ _) hl
    have HW1 := Lib.hid hw1
    have HFS := Lib.hid hfiles
    have HCR := Lib.hid hcore
    clear hw1 hfa hnew hfiles hcore
    refine hfo.mono ?_
    clear hfo
    rintro e w2 ⟨rfl, hc2, ho2⟩
    have HC2 := Lib.hid hc2
    have HO2 := Lib.hid ho2
    clear hc2 ho2
    go_wp2_with fail
    go_ret
    unfold goneE DiskD.sync
    rw [HF.out]
    refine ⟨rfl, ⟨bm, LA, lc, _, M, HC2.out, HFS.out.mine HCR.out HO2.out, HK3.out.upd f.id lastF_keeps, HK4.out, fun q hq => ?_⟩, ?_⟩
    · obtain ⟨p, hp, rfl⟩ := mem_updD hq
      rw [lastF_keeps.id']
      by_cases e : p.id = f.id
      · have := pair_inj (g := FileD.id) HOK.out.ids hp HFM.out e
        subst this
        rw [if_pos rfl]
        exact HK5.out p hp
      · rw [if_neg e]
        exact HK5.out p hp
    · refine (HW1.out.mono fun k _ hk => ?_).trans (HO2.out.mono fun k _ hk => HK4.out k hk)
      rcases hk with rfl | hk
      · exact (HK5.out f HFM.out).1
      · exact (HK5.out f HFM.out).2 k hk
end Go.Proofs.Ytideokbaenkijaa
