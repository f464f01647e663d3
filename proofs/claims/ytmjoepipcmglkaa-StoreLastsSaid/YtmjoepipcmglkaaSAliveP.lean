/-
  What the law package's alive does to a disk, plain.
-/
import Derived.Test.YtmjoepipcmglkaaSSame
namespace Go.Proofs.Ytmjoepipcmglkaa

abbrev nX : ByteArray := ⟨#[120]⟩
abbrev nY : ByteArray := ⟨#[121]⟩
abbrev nZ : ByteArray := ⟨#[122]⟩
def al0 : DiskD := ⟨[], [], 9⟩
def al1 (i : Nat) : DiskD := ⟨[⟨nX, i, [97, 98], 0, false⟩], [(i, 2)], 9⟩
def al2 (i k : Nat) : DiskD := ⟨[⟨nX, i, [97, 98], 0, false⟩, ⟨nY, k, [99, 100], 0, false⟩], [(i, 2), (k, 2)], 9⟩
def al3 (i k : Nat) : DiskD := ⟨[⟨nX, i, [97, 98], 2, true⟩, ⟨nY, k, [99], 1, true⟩], [], 9⟩
theorem al1_is (i : Nat) : al0.write nX [97, 98] i = al1 i := by
  have h : (rightB nX && fitsB al0 2) = true := by decide
  unfold DiskD.write
  rw [show ([97, 98] : List Int).length = 2 from rfl, h]
  simp [al0, al1, findD, DiskD.put, DiskD.grow, updD, addF]
theorem al1_e : writeE al0 nX 2 = 0 := by decide
theorem al2_is (i k : Nat) (hk : ((al1 i).write nY [99, 100] k).Ok) : (al1 i).write nY [99, 100] k = al2 i k ∧ i ≠ k := by
  have hb : (rightB nY && fitsB (al1 i) 2) = true := by
    have h1 : rightB nY = true := by decide
    rw [h1]
    simp [fitsB, al1, sizeL]
  have hf : findD (al1 i).files nY = none := by simp [al1, findD]
  have e : (al1 i).write nY [99, 100] k = ((al1 i).put nY k).grow k [99, 100] := by
    unfold DiskD.write
    rw [show ([99, 100] : List Int).length = 2 from rfl, hb, hf]
    rfl
  rw [e] at hk ⊢
  have hne : i ≠ k := by
    have := hk.ids
    simp only [DiskD.grow, DiskD.put, al1, updD, List.map_cons, List.map_nil, List.cons_append, List.nil_append] at this
    have h2 := (List.pairwise_cons.1 this).1 _ (List.mem_singleton.2 rfl)
    intro c
    subst c
    simp [addF] at h2
  refine ⟨?_, hne⟩
  simp [DiskD.grow, DiskD.put, al1, al2, updD, addF, hne]
theorem al2_e (i : Nat) : writeE (al1 i) nY 2 = 0 := by
  have h1 : rightB nY = true := by decide
  unfold writeE
  rw [h1]
  simp [fitsB, al1, sizeL]
theorem al3_is (i k : Nat) (h : i ≠ k) : (al2 i k).crash 3 = al3 i k := by
  simp [DiskD.crash, al2, al3, crashed, crashStep, updD, keepF, cutF, h, h.symm]
end Go.Proofs.Ytmjoepipcmglkaa
