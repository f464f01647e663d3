/-
  What was synced is there behind any crash; a second crash changes nothing: plain.
-/
import Derived.Test.YtmjoepipcmglkaaSRooms
namespace Go.Proofs.Ytmjoepipcmglkaa

/-- So many bytes of the file so called last, for sure. -/
def SafeAt (D : DiskD) (nm : ByteArray) (s : Nat) : Prop := s = 0 ∨ ∃ f ∈ D.files, f.name = nm ∧ f.stays = true ∧ s ≤ f.safe
theorem id_ne {D : DiskD} (h : D.Ok) {f g : FileD} (hf : f ∈ D.files) (hg : g ∈ D.files) (hn : f.name ≠ g.name) : f.id ≠ g.id := fun e => hn (by rw [pair_inj (g := FileD.id) h.ids hf hg e])
theorem safe_upd {fs : List FileD} {f : FileD} {nm : ByteArray} {s id : Nat} {g : FileD → FileD} (hf : f ∈ fs) (hn : f.name = nm) (hs : f.stays = true) (hle : s ≤ f.safe) (g1 : (g f).name = f.name) (g2 : f.stays = true → (g f).stays = true) (g3 : f.safe ≤ (g f).safe) :
    ∃ q ∈ updD id g fs, q.name = nm ∧ q.stays = true ∧ s ≤ q.safe := by
  refine ⟨_, updD_mem hf, ?_⟩
  split
  · exact ⟨g1.trans hn, g2 hs, Nat.le_trans hle g3⟩
  · exact ⟨hn, hs, hle⟩
theorem safe_do {D : DiskD} {c : CallD} {new : Nat} {nm : ByteArray} {s : Nat} (h : SafeAt D nm s) (hok : D.Ok) (h4 : c.what ≠ 4) (h2 : doE D c = 0 → ¬ (c.what = 2 ∧ c.name = nm)) (h3 : doE D c = 0 → ¬ (c.what = 3 ∧ (c.name = nm ∨ c.to = nm))) : SafeAt (D.doC c new) nm s := by
  rcases h with h | ⟨f, hf, hn, hs, hle⟩
  · exact .inl h
  refine .inr ?_
  unfold DiskD.doC
  unfold doE at h2 h3
  by_cases k0 : c.what = 0
  · rw [if_pos k0]
    unfold DiskD.write
    split
    · cases findD D.files c.name with
      | some q => exact safe_upd (g := addF c.xs) hf hn hs hle rfl (fun h => h) (Nat.le_refl _)
      | none => exact safe_upd (g := addF c.xs) (List.mem_append_left _ hf) hn hs hle rfl (fun h => h) (Nat.le_refl _)
    · exact ⟨f, hf, hn, hs, hle⟩
  rw [if_neg k0] at h2 h3 ⊢
  by_cases k1 : c.what = 1
  · rw [if_pos k1]
    unfold DiskD.sync
    cases findD D.files c.name with
    | some q => exact safe_upd (g := lastF) hf hn hs hle rfl (fun _ => rfl) (by have := hok.sums f hf; show f.safe ≤ f.xs.length; omega)
    | none => exact ⟨f, hf, hn, hs, hle⟩
  rw [if_neg k1] at h2 h3 ⊢
  by_cases k2 : c.what = 2
  · rw [if_pos k2] at h2 ⊢
    unfold DiskD.remove
    unfold goneE at h2
    cases hq : findD D.files c.name with
    | some q =>
      rw [hq] at h2
      obtain ⟨q1, q2⟩ := findD_some hq
      exact ⟨f, mem_strike.2 ⟨hf, id_ne hok hf q1 fun e => h2 rfl ⟨k2, by rw [← q2, ← e, hn]⟩⟩, hn, hs, hle⟩
    | none => exact ⟨f, hf, hn, hs, hle⟩
  rw [if_neg k2] at h2 h3 ⊢
  by_cases k3 : c.what = 3
  · rw [if_pos k3] at h3 ⊢
    unfold DiskD.rename
    unfold renameE goneE at h3
    split
    · rename_i hr
      rw [if_pos hr] at h3
      cases hq : findD D.files c.name with
      | some q =>
        rw [hq] at h3
        obtain ⟨q1, q2⟩ := findD_some hq
        have hf1 : f ∈ strikeD q.id D.files := mem_strike.2 ⟨hf, id_ne hok hf q1 fun e => h3 rfl ⟨k3, .inl (by rw [← q2, ← e, hn])⟩⟩
        refine ⟨f, List.mem_append_left _ ?_, hn, hs, hle⟩
        unfold gone
        cases ht : findD (strikeD q.id D.files) c.to with
        | none => exact hf1
        | some t =>
          obtain ⟨t1, t2⟩ := findD_some ht
          exact mem_strike.2 ⟨hf1, id_ne hok hf (mem_strike.1 t1).1 fun e => h3 rfl ⟨k3, .inr (by rw [← t2, ← e, hn])⟩⟩
      | none => exact ⟨f, hf, hn, hs, hle⟩
    · exact ⟨f, hf, hn, hs, hle⟩
  rw [if_neg k3, if_neg h4]
  exact ⟨f, hf, hn, hs, hle⟩
/-- Behind a Sync all of a file lasts. -/
theorem safe_sync {D : DiskD} {nm : ByteArray} (hok : D.Ok) (h : goneE D.files nm = 0) : SafeAt (D.sync nm) nm (bytesD (D.sync nm).files nm).length := by
  unfold goneE at h
  cases hq : findD D.files nm with
  | none => rw [hq] at h; cases h
  | some q =>
    obtain ⟨q1, q2⟩ := findD_some hq
    have he : D.sync nm = D.last q.id := by unfold DiskD.sync; rw [hq]
    have hm : lastF q ∈ (D.last q.id).files := by have := updD_mem (id := q.id) (g := lastF) q1; rwa [if_pos rfl] at this
    have hfd : findD (D.last q.id).files nm = some (lastF q) := by rw [← q2]; exact findD_mem (f := lastF q) (hok.last q.id).names hm
    rw [he]
    exact .inr ⟨lastF q, hm, q2, rfl, by unfold bytesD; rw [hfd]; exact Nat.le_refl _⟩
theorem crash_safe {D : DiskD} (hok : D.Ok) (k : Nat) : ∀ g ∈ (crashed D.loose (D.files, k)).1, g.safe ≤ g.xs.length :=
  crashed_safe D.loose (D.files, k) fun f hf => Nat.le_of_eq (hok.sums f hf)
/-- Behind a crash there is a beginning of what there was. -/
theorem crash_begins {D : DiskD} (hok : D.Ok) (k : Nat) (nm : ByteArray) : bytesD (D.crash k).files nm = (bytesD D.files nm).take (bytesD (D.crash k).files nm).length ∧ (bytesD (D.crash k).files nm).length ≤ (bytesD D.files nm).length ∧ ((findD (D.crash k).files nm).isSome = true → (findD D.files nm).isSome = true) := by
  cases hq : findD (D.crash k).files nm with
  | none =>
    have : bytesD (D.crash k).files nm = [] := by unfold bytesD; rw [hq]
    rw [this]
    exact ⟨rfl, Nat.zero_le _, fun h => by cases h⟩
  | some q =>
    obtain ⟨q1, q2⟩ := findD_some hq
    obtain ⟨g, hg, _, rfl⟩ := crash_mem q1
    obtain ⟨f, hf, hl⟩ := (laters_crashed D.loose (D.files, k)).mem hg
    have hfd : findD D.files nm = some f := by rw [← q2, show (cutF g).name = f.name from hl.name]; exact findD_mem hok.names hf
    have e1 : bytesD (D.crash k).files nm = g.xs.take g.safe := by unfold bytesD; rw [hq]; rfl
    have e2 : bytesD D.files nm = g.xs := by unfold bytesD; rw [hfd]; exact hl.xs.symm
    have hs := crash_safe hok k g hg
    rw [e1, e2, hfd, List.length_take, Nat.min_eq_left hs]
    exact ⟨rfl, hs, fun _ => rfl⟩
theorem safe_crash {D : DiskD} {nm : ByteArray} {s : Nat} (h : SafeAt D nm s) (hok : D.Ok) (k : Nat) : s ≤ (bytesD (D.crash k).files nm).length := by
  rcases h with rfl | ⟨f, hf, hn, hs, hle⟩
  · exact Nat.zero_le _
  obtain ⟨g, hg, hl⟩ := (laters_crashed D.loose (D.files, k)).mem' hf
  have hm : cutF g ∈ (D.crash k).files := List.mem_map.2 ⟨g, List.mem_filter.2 ⟨hg, hl.stays hs⟩, rfl⟩
  have hfd : findD (D.crash k).files nm = some (cutF g) := by rw [← hn, ← hl.name]; exact findD_mem (f := cutF g) (hok.crash k).names hm
  unfold bytesD
  rw [hfd]
  show s ≤ (g.xs.take g.safe).length
  rw [List.length_take, Nat.min_eq_left (crash_safe hok k g hg)]
  exact Nat.le_trans hle hl.safe
theorem bytes_le (fs : List FileD) (nm : ByteArray) : (bytesD fs nm).length ≤ sizeL fs := by
  unfold bytesD
  cases h : findD fs nm with
  | none => exact Nat.zero_le _
  | some f => exact size_mem (findD_some h).1
/-- A second crash changes nothing. -/
theorem crash_twice (D : DiskD) (k j : Nat) : (D.crash k).crash j = D.crash k := by
  have h1 : ∀ f ∈ (D.crash k).files, f.stays = true := fun f hf => by
    obtain ⟨g, _, h, rfl⟩ := crash_mem hf
    exact h
  have h2 : ∀ f ∈ (D.crash k).files, cutF f = f := fun f hf => by
    obtain ⟨g, _, _, rfl⟩ := crash_mem hf
    simp [cutF, List.take_take]
  show (⟨((D.crash k).files.filter fun f => f.stays).map cutF, [], D.limit⟩ : DiskD) = D.crash k
  rw [List.filter_eq_self.2 h1, List.map_congr_left h2, List.map_id']
  rfl
end Go.Proofs.Ytmjoepipcmglkaa
