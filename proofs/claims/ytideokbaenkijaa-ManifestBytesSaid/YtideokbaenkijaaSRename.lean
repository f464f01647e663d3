/-
  (*Disk).Remove of a disk; Rename.
-/
import Derived.Test.YtideokbaenkijaaSSync
namespace Go.Proofs.Ytideokbaenkijaa
open Go.RowKit Go.Maps

def DiskD.remove (D : DiskD) (name : ByteArray) : DiskD := match findD D.files name with
  | none => D
  | some f => D.drop f.id
theorem gone_files (D : DiskD) (name : ByteArray) : (gone D.files D.loose name).1 = (D.remove name).files := by
  unfold gone DiskD.remove
  cases findD D.files name <;> rfl
theorem gone_loose (D : DiskD) (name : ByteArray) : (gone D.files D.loose name).2 = (D.remove name).loose := by
  unfold gone DiskD.remove
  cases findD D.files name <;> rfl
theorem gone_mem {fs : List FileD} {l : List (Nat × Nat)} {name : ByteArray} {f : FileD} (h : f ∈ (gone fs l name).1) : f ∈ fs := by
  unfold gone at h
  split at h
  · exact h
  · exact (mem_strike.1 h).1
theorem remove_limit (D : DiskD) (name : ByteArray) : (D.remove name).limit = D.limit := by
  unfold DiskD.remove
  cases findD D.files name <;> rfl
theorem DiskD.Ok.sync {D : DiskD} (h : D.Ok) (name : ByteArray) : (D.sync name).Ok := by
  unfold DiskD.sync
  split
  · exact h
  · exact h.last _
theorem DiskD.Ok.remove {D : DiskD} (h : D.Ok) (name : ByteArray) : (D.remove name).Ok := by
  unfold DiskD.remove
  split
  · exact h
  · exact h.drop _

theorem remove_calls (S : Nat → Prop) (bd : Nat) (D : DiskD) (name : ByteArray) (w : World) (h : DiskAt S w bd D) (hok : D.Ok) (hl : D.loose.length ≤ 1000000) (hs : name.size ≤ maxLen) :
    Calls Try.prog 57 #[.pointer (some ⟨bd, 0, none⟩), .string name] w fun e w' => e = .returned (.int .i64 (goneE D.files name)) ∧ DiskAt S w' bd (D.remove name) ∧ Only S w w' := by
  obtain ⟨bm, LA, lc, hh, M, k1, k2, k3, k4, k5⟩ := h
  refine (rem_calls bd bm lc D.limit LA M D.loose D.files name w k1 k3 hok.names hok.ids (k2.alive hok) (fun f hf => (k2.at_ f hf).alive) hl hs).mono ?_
  rintro e w' ⟨rfl, ⟨M', c1, c2⟩, ho⟩
  rw [gone_loose, ← remove_limit D name] at c1
  have hsub : ∀ f ∈ (D.remove name).files, f ∈ D.files := fun f hf => gone_mem (l := D.loose) (by rw [gone_files]; exact hf)
  rw [gone_files] at c2
  exact ⟨rfl, ⟨bm, LA, lc, hh, M', c1, (k2.mine k1 ho).sub hsub, c2, k4, fun f hf => k5 f (hsub f hf)⟩, ho.mono fun k _ hk => k4 k hk⟩

/-! ### a file is called otherwise -/
def DiskD.rename (D : DiskD) (a b : ByteArray) : DiskD := if rightB b then match findD D.files a with
  | none => D
  | some f => { D with files := (gone (strikeD f.id D.files) D.loose b).1 ++ [nameF b f], loose := (gone (strikeD f.id D.files) D.loose b).2 } else D
def renameE (fs : List FileD) (a b : ByteArray) : Int := if rightB b then goneE fs a else 10
theorem size_strike : ∀ {fs : List FileD} {f : FileD}, fs.Pairwise (fun a b => a.id ≠ b.id) → f ∈ fs → sizeL (strikeD f.id fs) + f.xs.length = sizeL fs
  | [], f, _, h => by cases h
  | q :: fs, f, hp, hf => by
    obtain ⟨h1, h2⟩ := List.pairwise_cons.1 hp
    have ih := @size_strike fs
    unfold strikeD at ih ⊢
    rw [List.filter_cons]
    rcases List.mem_cons.1 hf with rfl | hf
    · rw [if_neg (by simp), List.filter_eq_self.2 fun p hp => by simpa using fun e => h1 p hp e.symm, size_cons]
      omega
    · rw [if_pos (by simpa using h1 f hf), size_cons, size_cons, ← ih h2 hf]
      omega
theorem gone_len {fs : List FileD} {l : List (Nat × Nat)} {name : ByteArray} : (gone fs l name).1.length ≤ fs.length := by
  unfold gone
  split
  · exact Nat.le_refl _
  · exact List.length_filter_le _ _
theorem gone_sub {fs : List FileD} {l : List (Nat × Nat)} {name : ByteArray} : (gone fs l name).1.Sublist fs := by
  unfold gone
  split
  · exact List.Sublist.refl _
  · exact List.filter_sublist
theorem gone_name {fs : List FileD} {l : List (Nat × Nat)} {name : ByteArray} (hn : fs.Pairwise fun a b => a.name ≠ b.name) : ∀ f ∈ (gone fs l name).1, f.name ≠ name := fun f hf => by
  unfold gone at hf
  split at hf
  · rename_i h
    exact findD_none h f hf
  · rename_i q h
    obtain ⟨h1, h2⟩ := mem_strike.1 hf
    obtain ⟨h3, h4⟩ := findD_some h
    intro e
    exact h2 (by rw [pair_inj (g := FileD.name) hn h1 h3 (e.trans h4.symm)])
theorem DiskD.Ok.rename {D : DiskD} (h : D.Ok) (a b : ByteArray) : (D.rename a b).Ok := by
  unfold DiskD.rename
  split
  case isFalse => exact h
  case isTrue hb =>
    split
    · exact h
    · rename_i f hf
      obtain ⟨hfm, rfl⟩ := findD_some hf
      have hsub := gone_sub (fs := strikeD f.id D.files) (l := D.loose) (name := b)
      have hids : (strikeD f.id D.files).Pairwise fun a b => a.id ≠ b.id := h.ids.filter _
      have hnames : (strikeD f.id D.files).Pairwise fun a b => a.name ≠ b.name := h.names.filter _
      have hmem : ∀ q ∈ (gone (strikeD f.id D.files) D.loose b).1, q ∈ D.files ∧ q.id ≠ f.id := fun q hq => mem_strike.1 (hsub.subset hq)
      have hloose : ∀ q ∈ D.files, (q = f ∨ q ∈ (gone (strikeD f.id D.files) D.loose b).1) → looseOf q.id (gone (strikeD f.id D.files) D.loose b).2 = looseOf q.id D.loose := by
        intro q hq hor
        unfold gone
        split
        · rfl
        · rename_i p hp
          obtain ⟨h1, h2⟩ := findD_some hp
          show looseOf q.id (restD p.id D.loose) = _
          rw [looseOf_rest, if_neg]
          intro e
          rcases hor with rfl | hor
          · exact (mem_strike.1 h1).2 e.symm
          · unfold gone at hor
            rw [hp] at hor
            exact (mem_strike.1 hor).2 e
      unfold rightB at hb
      simp only [Bool.and_eq_true, decide_eq_true_eq] at hb
      refine ⟨?_, ?_, ?_, ?_, ?_, ?_, h.small⟩
      · exact List.pairwise_append.2 ⟨hnames.sublist hsub, List.pairwise_singleton _ _, fun x hx y hy => by rw [List.mem_singleton.1 hy]; exact gone_name hnames x hx⟩
      · exact List.pairwise_append.2 ⟨hids.sublist hsub, List.pairwise_singleton _ _, fun x hx y hy => by rw [List.mem_singleton.1 hy]; exact (hmem x hx).2⟩
      · intro q hq
        rcases List.mem_append.1 hq with hq | hq
        · exact h.right q (hmem q hq).1
        · rw [List.mem_singleton.1 hq]; exact hb
      · intro q hq
        rcases List.mem_append.1 hq with hq | hq
        · rw [hloose q (hmem q hq).1 (.inr hq)]; exact h.sums q (hmem q hq).1
        · rw [List.mem_singleton.1 hq]
          show f.safe + looseOf f.id _ = f.xs.length
          rw [hloose f hfm (.inl rfl)]
          exact h.sums f hfm
      · intro p hp
        have hp' : p ∈ D.loose ∧ ∀ q, findD (strikeD f.id D.files) b = some q → p.1 ≠ q.id := by
          revert hp
          show p ∈ (gone (strikeD f.id D.files) D.loose b).2 → _
          unfold gone
          split
          · intro hp
            rename_i hno
            exact ⟨hp, fun q hq => by rw [hno] at hq; cases hq⟩
          · intro hp
            rename_i q hq
            obtain ⟨g1, g2⟩ := mem_rest hp
            exact ⟨g1, fun q' hq' => by rw [hq] at hq'; rw [← Option.some.inj hq']; exact g2⟩
        obtain ⟨r, hr, e⟩ := h.known p hp'.1
        by_cases hrf : r.id = f.id
        · exact ⟨nameF b f, List.mem_append_right _ (by simp), hrf.symm.trans e⟩
        · refine ⟨r, List.mem_append_left _ ?_, e⟩
          unfold gone
          split
          · exact mem_strike.2 ⟨hr, hrf⟩
          · rename_i q hq
            exact mem_strike.2 ⟨mem_strike.2 ⟨hr, hrf⟩, fun c => hp'.2 q hq (by rw [← e, c])⟩
      · show sizeL (_ ++ [nameF b f]) ≤ _
        rw [size_app]
        have h1 := size_strike h.ids hfm
        have h2 : sizeL (gone (strikeD f.id D.files) D.loose b).1 ≤ sizeL (strikeD f.id D.files) := by
          unfold gone
          split
          · exact Nat.le_refl _
          · exact size_filter _ _
        have h3 : sizeL [nameF b f] = f.xs.length := by simp [sizeL, nameF]
        have h4 := h.fits
        show _ ≤ D.limit
        omega
end Go.Proofs.Ytideokbaenkijaa
