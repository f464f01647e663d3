/-
  StoreRooms, walked.
-/
import Derived.Test.YtmjoepipcmglkaaSNames
namespace Go.Proofs.Ytmjoepipcmglkaa
open Go.RowKit Go.Maps

theorem crash_len (D : DiskD) (k : Nat) : (D.crash k).files.length ≤ D.files.length := by
  have h := (laters_crashed D.loose (D.files, k)).len
  show ((((crashed D.loose (D.files, k)).1.filter fun f => f.stays).map cutF)).length ≤ _
  rw [List.length_map, ← h]
  exact List.length_filter_le _ _
/-- What a call adds. -/
theorem doC_len (D : DiskD) (c : CallD) (new : Nat) : (D.doC c new).loose.length ≤ D.loose.length + 1 ∧ (D.doC c new).files.length ≤ D.files.length + 1 ∧ (D.doC c new).limit = D.limit := by
  have hu : ∀ (id : Nat) (g : FileD → FileD) (fs : List FileD), (updD id g fs).length = fs.length := fun id g fs => by simp [updD]
  have hr : ∀ (id : Nat) (l : List (Nat × Nat)), (restD id l).length ≤ l.length := rest_len
  have hk : ∀ (id : Nat) (fs : List FileD), (strikeD id fs).length ≤ fs.length := fun id fs => List.length_filter_le _ _
  unfold DiskD.doC
  split
  · unfold DiskD.write
    split
    · cases findD D.files c.name with
      | some f => exact ⟨by simp [DiskD.grow], by simp [DiskD.grow, hu], rfl⟩
      | none => exact ⟨by simp [DiskD.grow, DiskD.put], by simp [DiskD.grow, DiskD.put, hu], rfl⟩
    · exact ⟨Nat.le_succ _, Nat.le_succ _, rfl⟩
  split
  · unfold DiskD.sync
    cases findD D.files c.name with
    | some f => exact ⟨Nat.le_succ_of_le (hr _ _), by simp only [DiskD.last, hu]; omega, rfl⟩
    | none => exact ⟨Nat.le_succ _, Nat.le_succ _, rfl⟩
  split
  · unfold DiskD.remove
    cases findD D.files c.name with
    | some f => exact ⟨Nat.le_succ_of_le (hr _ _), Nat.le_succ_of_le (hk _ _), rfl⟩
    | none => exact ⟨Nat.le_succ _, Nat.le_succ _, rfl⟩
  split
  · unfold DiskD.rename
    split
    · cases findD D.files c.name with
      | none => exact ⟨Nat.le_succ _, Nat.le_succ _, rfl⟩
      | some f =>
        refine ⟨?_, ?_, rfl⟩
        · show (gone (strikeD f.id D.files) D.loose c.to).2.length ≤ _
          unfold gone
          split
          · exact Nat.le_succ _
          · exact Nat.le_succ_of_le (hr _ _)
        · show ((gone (strikeD f.id D.files) D.loose c.to).1 ++ [_]).length ≤ _
          rw [List.length_append]
          exact Nat.add_le_add_right (Nat.le_trans gone_len (hk _ _)) 1
    · exact ⟨Nat.le_succ _, Nat.le_succ _, rfl⟩
  split
  · exact ⟨Nat.zero_le _, Nat.le_succ_of_le (crash_len _ _), rfl⟩
  · exact ⟨Nat.le_succ _, Nat.le_succ _, rfl⟩
end Go.Proofs.Ytmjoepipcmglkaa
