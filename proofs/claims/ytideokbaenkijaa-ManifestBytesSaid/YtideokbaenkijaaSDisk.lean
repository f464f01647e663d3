/-
  A disk, as it lies; (*Disk).Remove, Sync.
-/
import Derived.Test.YtideokbaenkijaaSCore
namespace Go.Proofs.Ytideokbaenkijaa
open Go.RowKit Go.Maps

/-- Files, as they lie: h tells where a file's bytes do. -/
structure Files (w : World) (h : Nat → Option Addr × Nat) (fs : List FileD) : Prop where
  at_ : ∀ f ∈ fs, FileAt w f (h f.id).1 (h f.id).2
  apart : ∀ f ∈ fs, ∀ q ∈ fs, f.id ≠ q.id → ∀ r, (h f.id).1 = some ⟨r, 0, none⟩ → (h q.id).1 ≠ some ⟨r, 0, none⟩
theorem Files.sub {w : World} {h : Nat → Option Addr × Nat} {fs fs' : List FileD} (hf : Files w h fs) (hs : ∀ f ∈ fs', f ∈ fs) : Files w h fs' :=
  ⟨fun f k => hf.at_ f (hs f k), fun f k q j => hf.apart f (hs f k) q (hs q j)⟩
theorem Files.only {w w' : World} {h : Nat → Option Addr × Nat} {fs : List FileD} {S : Nat → Prop} (hf : Files w h fs) (ho : Only S w w') (h1 : ∀ f ∈ fs, ¬ S f.id) (h2 : ∀ f ∈ fs, ∀ g, (h f.id).1 = some ⟨g, 0, none⟩ → ¬ S g) : Files w' h fs :=
  ⟨fun f k => (hf.at_ f k).only ho (h1 f k) (h2 f k), hf.apart⟩
theorem Files.mine {w w' : World} {h : Nat → Option Addr × Nat} {fs : List FileD} {bd bm lc limit : Nat} {LA : Option Addr} {M : DataW Unit} {l : List (Nat × Nat)} (hf : Files w h fs) (hc : Core w bd bm LA lc M l limit) (ho : Only (Mine bd bm LA) w w') : Files w' h fs := by
  refine hf.only ho (fun f k => ?_) (fun f k g hg => ?_)
  · have hh := (hf.at_ f k).head
    rintro (e | e | e)
    · exact block_ne hh hc.head (by decide) e
    · exact map_ne hc.map hh e
    · have := hc.own
      rw [e] at this
      exact own_ne this hh (by decide) rfl
  · have hh := (hf.at_ f k).own
    rw [hg] at hh
    rintro (e | e | e)
    · exact own_ne hh hc.head (by decide) e.symm
    · exact own_ne_map hh hc.map e.symm
    · have := hc.own
      rw [e] at this
      exact own_ne_own hh this (by decide) rfl

structure Lies (S : Nat → Prop) (w : World) (bd bm : Nat) (LA : Option Addr) (lc : Nat) (h : Nat → Option Addr × Nat) (M : DataW Unit) (D : DiskD) : Prop where
  core : Core w bd bm LA lc M D.loose D.limit
  files : Files w h D.files
  reads : Reads M D.files
  mine : ∀ k, Mine bd bm LA k → S k
  ours : ∀ f ∈ D.files, S f.id ∧ ∀ g, (h f.id).1 = some ⟨g, 0, none⟩ → S g
/-- A disk lies at block bd; what it needs lies in S. -/
def DiskAt (S : Nat → Prop) (w : World) (bd : Nat) (D : DiskD) : Prop := ∃ bm LA lc h M, Lies S w bd bm LA lc h M D
theorem DiskAt.only {S T : Nat → Prop} {w w' : World} {bd : Nat} {D : DiskD} (h : DiskAt S w bd D) (ho : Only T w w') (hT : ∀ k, S k → ¬ T k) : DiskAt S w' bd D := by
  obtain ⟨bm, LA, lc, hh, M, h1, h2, h3, h4, h5⟩ := h
  exact ⟨bm, LA, lc, hh, M, h1.only ho (hT _ (h4 _ (.inl rfl))) (hT _ (h4 _ (.inr (.inl rfl)))) (fun g e => hT _ (h4 _ (.inr (.inr e)))), h2.only ho (fun f k => hT _ (h5 f k).1) (fun f k g e => hT _ ((h5 f k).2 g e)), h3, h4, h5⟩
theorem DiskAt.below {S : Nat → Prop} {w w' : World} {bd : Nat} {D : DiskD} (h : DiskAt S w bd D) (hb : Below w.heap.size w w') : DiskAt S w' bd D := h.only (hb.only fun _ => False) fun _ _ h => h
theorem DiskAt.mono {S T : Nat → Prop} {w : World} {bd : Nat} {D : DiskD} (h : DiskAt S w bd D) (hST : ∀ k, S k → T k) : DiskAt T w bd D := by
  obtain ⟨bm, LA, lc, hh, M, h1, h2, h3, h4, h5⟩ := h
  exact ⟨bm, LA, lc, hh, M, h1, h2, h3, fun k hk => hST _ (h4 k hk), fun f k => ⟨hST _ (h5 f k).1, fun g e => hST _ ((h5 f k).2 g e)⟩⟩
theorem own_lt {α : Type} {E : TypeId} {sz : Nat} {enc : α → List Value} {w : World} {base g n cap : Nat} {xs : List α} (h : Own E sz enc w base (some ⟨g, 0, none⟩) n cap xs) : g < w.heap.size := by
  rcases h.shape with ⟨hA, _⟩ | ⟨q, hA, _, hq⟩
  · cases hA
  · injection hA with hA; injection hA with hA; omega
theorem Core.lt {w : World} {bd bm lc limit : Nat} {LA : Option Addr} {M : DataW Unit} {l : List (Nat × Nat)} (h : Core w bd bm LA lc M l limit) {k : Nat} (hk : Mine bd bm LA k) : k < w.heap.size := by
  rcases hk with rfl | rfl | rfl
  · exact (Array.getElem?_eq_some_iff.1 h.head).1
  · exact h.map.lt
  · exact own_lt h.own
theorem FileAt.lt {w : World} {f : FileD} {A : Option Addr} {cap : Nat} (h : FileAt w f A cap) : f.id < w.heap.size := (Array.getElem?_eq_some_iff.1 h.head).1
/-- All that a disk needs lies already. -/
theorem DiskAt.tight {S : Nat → Prop} {w : World} {bd : Nat} {D : DiskD} (h : DiskAt S w bd D) : DiskAt (fun k => S k ∧ k < w.heap.size) w bd D := by
  obtain ⟨bm, LA, lc, hh, M, h1, h2, h3, h4, h5⟩ := h
  refine ⟨bm, LA, lc, hh, M, h1, h2, h3, fun k hk => ⟨h4 k hk, h1.lt hk⟩, fun f k => ⟨⟨(h5 f k).1, (h2.at_ f k).lt⟩, fun g e => ⟨(h5 f k).2 g e, ?_⟩⟩⟩
  have := (h2.at_ f k).own
  rw [e] at this
  exact own_lt this

/-- The map's block has turned alone. -/
theorem Core.turn {w w' : World} {bd bm lc limit m : Nat} {LA : Option Addr} {M M' : DataW Unit} {l : List (Nat × Nat)} (h : Core w bd bm LA lc M l limit) (ho : Only (fun k => k = bm) w w') (hm : w'.ownsMap Try.prog 9 ptrE bm m M') : Core w' bd bm LA lc M' l limit :=
  ⟨ho.keep h.head (map_ne h.map h.head), h.own.only ho fun g e c => own_ne_map (by rw [← e]; exact h.own) h.map c.symm, map_tight hm⟩
theorem alive_ne_map {w : World} {b m k : Nat} {H : Type} {P : Program} {kt : TypeId} {R : Value → Option (DataW H × List MemPlace)} {D : DataW H} (hm : w.ownsMap P kt R b m D) (hk : Alive w k) : k ≠ b := by
  obtain ⟨cs, hk⟩ := hk
  exact map_ne hm hk
theorem Core.tidy {w : World} {bd bm lc limit : Nat} {LA : Option Addr} {M : DataW Unit} {l : List (Nat × Nat)} (h : Core w bd bm LA lc M l limit) : Tidy M := h.map.tidy keyedS
/-- What Remove leaves. -/
def gone (fs : List FileD) (l : List (Nat × Nat)) (name : ByteArray) : List FileD × List (Nat × Nat) := match findD fs name with
  | none => (fs, l)
  | some f => (strikeD f.id fs, restD f.id l)
def goneE (fs : List FileD) (name : ByteArray) : Int := match findD fs name with
  | none => 12
  | some _ => 0
set_option maxHeartbeats 1000000 in
theorem rem_calls (bd bm lc limit : Nat) (LA : Option Addr) (M : DataW Unit) (l : List (Nat × Nat)) (fs : List FileD) (name : ByteArray) (w : World) (h : Core w bd bm LA lc M l limit) (hr : Reads M fs) (hn : fs.Pairwise fun a b => a.name ≠ b.name) (hi : fs.Pairwise fun a b => a.id ≠ b.id)
    (h1 : ∀ p ∈ l, Alive w p.1) (h2 : ∀ f ∈ fs, Alive w f.id) (hl : l.length ≤ 1000000) (hs : name.size ≤ maxLen) :
    Calls Try.prog 57 #[.pointer (some ⟨bd, 0, none⟩), .string name] w fun e w' => e = .returned (.int .i64 (goneE fs name)) ∧ (∃ M', Core w' bd bm LA lc M' (gone fs l name).2 limit ∧ Reads M' (gone fs l name).1) ∧ Only (Mine bd bm LA) w w' := by
  have hrun := look_run h.map hr name hs
  obtain ⟨c0, c1, c2, fz⟩ := h.cells
  cases hf : findD fs name with
  | none =>
    rw [hf] at hrun
    have HC := Lib.hid h
    have HR := Lib.hid hr
    have HF := Lib.hid hf
    clear h hr h1 h2 hf
    unfold ptrOf at hrun
    go_enter Try.func57, Try.ntmps57
    go_wp2
    go_ret
    unfold goneE gone
    rw [HF.out]
    exact ⟨rfl, ⟨M, HC.out, HR.out⟩, Only.refl _ _⟩
  | some f =>
    rw [hf] at hrun
    obtain ⟨hfm, rfl⟩ := findD_some hf
    have HC := Lib.hid h
    have HR := Lib.hid hr
    have HF := Lib.hid hf
    have HFM := Lib.hid hfm
    have H1 := Lib.hid h1
    have H2 := Lib.hid h2
    have HN := Lib.hid hn
    have HI := Lib.hid hi
    clear h hr h1 h2 hf hfm hn hi
    unfold ptrOf at hrun
    go_enter Try.func57, Try.ntmps57
    go_wp2_with (at_delete; refine wpList_delete_own _ rfl _ _ 73 9 rfl 82 keyedS Try.underlying73 _ bm _ M rfl HC.out.map _ _ rfl (keyS_of hs) ?_; intro w1 hown1 hturn1)
    have hturn := turned_only hturn1
    have hcore := HC.out.turn hturn hown1
    have hfo := forget_calls bd bm lc limit f.id LA _ l w1 hcore (fun p hp => (H1.out p hp).only hturn (alive_ne_map HC.out.map (H1.out p hp))) ((H2.out f HFM.out).only hturn (alive_ne_map HC.out.map (H2.out f HFM.out))) hl
    have HT := Lib.hid hturn
    clear hturn hcore hown1 hturn1
    refine hfo.mono ?_
    clear hfo
    rintro e w2 ⟨rfl, hc2, ho2⟩
    have HC2 := Lib.hid hc2
    have HO2 := Lib.hid ho2
    clear hc2 ho2
    go_wp2_with fail
    go_ret
    unfold goneE gone
    rw [HF.out]
    exact ⟨rfl, ⟨_, HC2.out, HR.out.del HC.out.tidy HFM.out HN.out HI.out⟩, (HT.out.mono fun k _ hk => .inr (.inl hk)).trans HO2.out⟩
end Go.Proofs.Ytideokbaenkijaa
