/-
  What saving a state leaves on a disk, plain.
  manifest.swap.
-/
import Derived.Test.YtideokbaenkijaaMPlain
import Derived.Test.YtideokbaenkijaaSCrashW
namespace Go.Proofs.Ytideokbaenkijaa
open Go.RowKit

def bytesD (D : DiskD) (name : ByteArray) : List Int := match findD D.files name with
  | none => []
  | some f => f.xs
def asideN (name : ByteArray) : ByteArray := name ++ ⟨#[126]⟩
/-- What a disk's number of files and writes may become. -/
structure Grew (D D' : DiskD) (k : Nat) : Prop where
  loose : D'.loose.length ≤ D.loose.length + k
  files : D'.files.length ≤ D.files.length + k
  limit : D'.limit = D.limit
theorem Grew.refl (D : DiskD) (k : Nat) : Grew D D k := ⟨Nat.le_add_right _ _, Nat.le_add_right _ _, rfl⟩
theorem Grew.trans {D D' D2 : DiskD} {a b c : Nat} (h : Grew D D' a) (k : Grew D' D2 b) (hc : a + b ≤ c) : Grew D D2 c :=
  ⟨by have := h.loose; have := k.loose; omega, by have := h.files; have := k.files; omega, k.limit.trans h.limit⟩
theorem upd_len (id : Nat) (g : FileD → FileD) (fs : List FileD) : (updD id g fs).length = fs.length := by simp [updD]
theorem rest_len' (id : Nat) (l : List (Nat × Nat)) : (restD id l).length ≤ l.length := List.length_filter_le _ _
theorem strike_le (id : Nat) (fs : List FileD) : (strikeD id fs).length ≤ fs.length := List.length_filter_le _ _
theorem grew_write (D : DiskD) (name : ByteArray) (ys : List Int) (new : Nat) : Grew D (D.write name ys new) 1 := by
  unfold DiskD.write
  split
  · cases findD D.files name with
    | some f => exact ⟨by simp [DiskD.grow], by simp [DiskD.grow, upd_len], rfl⟩
    | none => exact ⟨by simp [DiskD.grow, DiskD.put], by simp [DiskD.grow, DiskD.put, upd_len], rfl⟩
  · exact Grew.refl _ _
theorem grew_sync (D : DiskD) (name : ByteArray) : Grew D (D.sync name) 0 := by
  unfold DiskD.sync
  cases findD D.files name with
  | some f => exact ⟨rest_len' _ _, by simp only [DiskD.last, upd_len]; exact Nat.le_refl _, rfl⟩
  | none => exact Grew.refl _ _
theorem grew_remove (D : DiskD) (name : ByteArray) : Grew D (D.remove name) 0 := by
  unfold DiskD.remove
  cases findD D.files name with
  | some f => exact ⟨rest_len' _ _, strike_le _ _, rfl⟩
  | none => exact Grew.refl _ _
theorem grew_rename (D : DiskD) (a b : ByteArray) : Grew D (D.rename a b) 1 := by
  unfold DiskD.rename
  split
  · cases findD D.files a with
    | none => exact Grew.refl _ _
    | some f =>
      refine ⟨?_, ?_, rfl⟩
      · show (gone (strikeD f.id D.files) D.loose b).2.length ≤ _
        unfold gone
        split
        · exact Nat.le_succ _
        · exact Nat.le_succ_of_le (rest_len' _ _)
      · show ((gone (strikeD f.id D.files) D.loose b).1 ++ [_]).length ≤ _
        rw [List.length_append]
        exact Nat.add_le_add_right (Nat.le_trans gone_len (strike_le _ _)) 1
  · exact Grew.refl _ _

/-- Bytes take a file's place. -/
def SwapR (D : DiskD) (name : ByteArray) (ys : List Int) (ev : Int) (D' : DiskD) : Prop := ∃ new D1, D1 = (D.remove (asideN name)).write (asideN name) ys new ∧ D1.Ok ∧
  ((writeE (D.remove (asideN name)) (asideN name) ys.length ≠ 0 ∧ ev = writeE (D.remove (asideN name)) (asideN name) ys.length ∧ D' = D1) ∨
   (writeE (D.remove (asideN name)) (asideN name) ys.length = 0 ∧ ev = renameE (D1.sync (asideN name)).files (asideN name) name ∧ D' = (D1.sync (asideN name)).rename (asideN name) name))
/-- Bytes are written, and last. -/
def WriteR (D : DiskD) (name : ByteArray) (ys : List Int) (ev : Int) (D' : DiskD) : Prop := ∃ new,
  ((writeE D name ys.length ≠ 0 ∧ ev = writeE D name ys.length ∧ D' = D.write name ys new) ∨
   (writeE D name ys.length = 0 ∧ ev = goneE (D.write name ys new).files name ∧ D' = (D.write name ys new).sync name))
def SaveR (D : DiskD) (name : ByteArray) (s : StateD) (ev : Int) (D' : DiskD) : Prop :=
  (rightS s = false ∧ ev = 10 ∧ D' = D) ∨ (rightS s = true ∧
    ((readS (bytesD D name) = none ∧ ev = 20 ∧ D' = D) ∨ ∃ old n, readS (bytesD D name) = some (old, n) ∧
      ((0 < old.gen ∧ s.gen ≠ old.gen + 1 ∧ ev = 10 ∧ D' = D) ∨ (¬ (0 < old.gen ∧ s.gen ≠ old.gen + 1) ∧
        ((2048 ≤ (bytesD D name).length ∧ SwapR D name (frameL (bytesS s)) ev D') ∨ ((bytesD D name).length < 2048 ∧
          ((n < (bytesD D name).length ∧ ∃ e1 D1, SwapR D name ((bytesD D name).take n) e1 D1 ∧ ((e1 ≠ 0 ∧ ev = e1 ∧ D' = D1) ∨ (e1 = 0 ∧ WriteR D1 name (frameL (bytesS s)) ev D'))) ∨
           (¬ n < (bytesD D name).length ∧ WriteR D name (frameL (bytesS s)) ev D'))))))))

/-! ### one file, all of it lasting -/
def nM : ByteArray := ⟨#[109]⟩
structure Clean (L : Nat) (D : DiskD) (xs : List Int) : Prop where
  limit : D.limit = L
  loose : D.loose = []
  files : (D.files = [] ∧ xs = []) ∨ ∃ id, D.files = [⟨nM, id, xs, xs.length, true⟩]
theorem Clean.bytes {L : Nat} {D : DiskD} {xs : List Int} (h : Clean L D xs) : bytesD D nM = xs := by
  unfold bytesD
  rcases h.files with ⟨h1, rfl⟩ | ⟨id, h1⟩
  · rw [h1]; rfl
  · rw [h1]; simp [findD]
theorem Clean.size {L : Nat} {D : DiskD} {xs : List Int} (h : Clean L D xs) : sizeL D.files = xs.length := by
  rcases h.files with ⟨h1, rfl⟩ | ⟨id, h1⟩
  · rw [h1]; rfl
  · rw [h1]; simp [sizeL]
theorem Clean.small {L : Nat} {D : DiskD} {xs : List Int} (h : Clean L D xs) : D.loose.length ≤ 0 ∧ D.files.length ≤ 1 := by
  refine ⟨by rw [h.loose]; simp, ?_⟩
  rcases h.files with ⟨h1, _⟩ | ⟨id, h1⟩ <;> rw [h1] <;> simp
theorem clean_new (L : Nat) : Clean L ⟨[], [], L⟩ [] := ⟨rfl, rfl, .inl ⟨rfl, rfl⟩⟩
theorem aside_m : asideN nM = ⟨#[109, 126]⟩ := by decide
theorem aside_ne : nM ≠ ⟨#[109, 126]⟩ := by decide
theorem write_one {L : Nat} {D : DiskD} {xs ys : List Int} (h : Clean L D xs) (hroom : xs.length + ys.length ≤ L) (new : Nat) :
    writeE D nM ys.length = 0 ∧ goneE (D.write nM ys new).files nM = 0 ∧ Clean L ((D.write nM ys new).sync nM) (xs ++ ys) := by
  have hr : rightB nM = true := by decide
  have hf : fitsB D ys.length = true := by unfold fitsB; rw [h.size, h.limit]; exact decide_eq_true (by omega)
  have hl := h.limit
  have ho := h.loose
  have he : writeE D nM ys.length = 0 := by unfold writeE; rw [hr, hf]; rfl
  refine ⟨he, ?_⟩
  rcases h.files with ⟨h1, rfl⟩ | ⟨id, h1⟩
  · have hw : D.write nM ys new = ⟨[⟨nM, new, ys, 0, false⟩], [(new, ys.length)], L⟩ := by
      unfold DiskD.write
      rw [hr, hf, h1]
      simp [findD, DiskD.put, DiskD.grow, updD, addF, h1, ho, hl]
    rw [hw]
    refine ⟨by simp [goneE, findD], ?_⟩
    exact ⟨by simp [DiskD.sync, findD, DiskD.last], by simp [DiskD.sync, findD, DiskD.last, restD], .inr ⟨new, by simp [DiskD.sync, findD, DiskD.last, updD, lastF]⟩⟩
  · have hw : D.write nM ys new = ⟨[⟨nM, id, xs ++ ys, xs.length, true⟩], [(id, ys.length)], L⟩ := by
      unfold DiskD.write
      rw [hr, hf, h1]
      simp [findD, DiskD.grow, updD, addF, h1, ho, hl]
    rw [hw]
    refine ⟨by simp [goneE, findD], ?_⟩
    exact ⟨by simp [DiskD.sync, findD, DiskD.last], by simp [DiskD.sync, findD, DiskD.last, restD], .inr ⟨id, by simp [DiskD.sync, findD, DiskD.last, updD, lastF]⟩⟩
theorem swap_one {L : Nat} {D : DiskD} {xs ys : List Int} (h : Clean L D xs) (hx : xs ≠ []) (hroom : xs.length + ys.length ≤ L) (new : Nat) (hok : ((D.remove (asideN nM)).write (asideN nM) ys new).Ok) :
    writeE (D.remove (asideN nM)) (asideN nM) ys.length = 0 ∧ renameE ((((D.remove (asideN nM)).write (asideN nM) ys new)).sync (asideN nM)).files (asideN nM) nM = 0 ∧ Clean L (((((D.remove (asideN nM)).write (asideN nM) ys new)).sync (asideN nM)).rename (asideN nM) nM) ys := by
  rw [aside_m] at hok ⊢
  have hne := aside_ne
  obtain ⟨id, h1⟩ : ∃ id, D.files = [⟨nM, id, xs, xs.length, true⟩] := by
    rcases h.files with ⟨_, h2⟩ | h2
    · exact absurd h2 hx
    · exact h2
  have hrem : D.remove ⟨#[109, 126]⟩ = D := by
    unfold DiskD.remove
    rw [h1]
    simp [findD, hne]
  rw [hrem] at hok ⊢
  have hr : rightB ⟨#[109, 126]⟩ = true := by decide
  have hr2 : rightB nM = true := by decide
  have hf : fitsB D ys.length = true := by unfold fitsB; rw [h.size, h.limit]; exact decide_eq_true (by omega)
  have hl := h.limit
  have ho := h.loose
  have he : writeE D ⟨#[109, 126]⟩ ys.length = 0 := by unfold writeE; rw [hr, hf]; rfl
  refine ⟨he, ?_⟩
  have hw0 : D.write ⟨#[109, 126]⟩ ys new = (D.put ⟨#[109, 126]⟩ new).grow new ys := by
    unfold DiskD.write
    rw [hr, hf, h1]
    simp [findD, hne]
  have hnew : id ≠ new := by
    rw [hw0] at hok
    have := hok.ids
    simp [DiskD.put, DiskD.grow, updD, addF, h1] at this
    intro e
    subst e
    simp at this
  have hw : D.write ⟨#[109, 126]⟩ ys new = ⟨[⟨nM, id, xs, xs.length, true⟩, ⟨⟨#[109, 126]⟩, new, ys, 0, false⟩], [(new, ys.length)], L⟩ := by
    rw [hw0]
    simp [DiskD.put, DiskD.grow, updD, addF, h1, ho, hl, hnew]
  rw [hw]
  have hs : (⟨[⟨nM, id, xs, xs.length, true⟩, ⟨⟨#[109, 126]⟩, new, ys, 0, false⟩], [(new, ys.length)], L⟩ : DiskD).sync ⟨#[109, 126]⟩ = ⟨[⟨nM, id, xs, xs.length, true⟩, ⟨⟨#[109, 126]⟩, new, ys, ys.length, true⟩], [], L⟩ := by
    simp [DiskD.sync, findD, DiskD.last, updD, lastF, restD, hne, hnew]
  rw [hs]
  refine ⟨by simp [renameE, hr2, goneE, findD, hne], ?_⟩
  have hq : (⟨[⟨nM, id, xs, xs.length, true⟩, ⟨⟨#[109, 126]⟩, new, ys, ys.length, true⟩], [], L⟩ : DiskD).rename ⟨#[109, 126]⟩ nM = ⟨[⟨nM, new, ys, ys.length, true⟩], [], L⟩ := by
    unfold DiskD.rename
    rw [hr2]
    simp [findD, hne, gone, strikeD, restD, nameF, hnew]
  rw [hq]
  exact ⟨rfl, rfl, .inr ⟨new, rfl⟩⟩
/-- What a file of whole states becomes. -/
def nextFile (xs : List Int) (s : StateD) : List Int := if 2048 ≤ xs.length then frameL (bytesS s) else xs ++ frameL (bytesS s)
end Go.Proofs.Ytideokbaenkijaa
namespace Go.Proofs.Ytideokbaenkijaa
open Go.RowKit Go.Maps

theorem plus_more {S : Nat → Prop} {a b : Nat} (h : b ≤ a) : ∀ k, Plus S a k → Plus S b k := fun _ hk => hk.imp id fun h2 => Nat.le_trans h h2
/-- What a call leaves of a disk. -/
def DiskOut (R : Int → DiskD → Prop) (S : Nat → Prop) (w : World) (bd : Nat) (e : Ending) (w' : World) : Prop :=
  ∃ ev D', e = .returned (.int .i64 ev) ∧ R ev D' ∧ D'.Ok ∧ DiskAt (Plus S w.heap.size) w' bd D' ∧ Only S w w'
set_option maxHeartbeats 4000000 in
set_option maxRecDepth 20000 in
theorem swap_calls (S : Nat → Prop) (bd : Nat) (D : DiskD) (name : ByteArray) (A : Option Addr) (n cap : Nat) (ys : List Int) (w : World) (h : DiskAt S w bd D) (hok : D.Ok) (hs : name.size ≤ 1000) (hr : RdB w A n ys) (hA : A = none → cap = 0) (hS : ∀ a, A = some a → ¬ S a.block) (hl : D.loose.length ≤ 999000) (hf : D.files.length ≤ 999000) (hn : n ≤ 1000000000) :
    Calls Try.prog 44 #[.pointer (some ⟨bd, 0, none⟩), .string name, .slice A n cap] w (DiskOut (SwapR D name ys) S w bd) := by
  obtain ⟨nm, hnm⟩ : ∃ nm, nm = asideN name := ⟨_, rfl⟩
  have hns : nm.size ≤ maxLen := by rw [hnm]; unfold asideN maxLen; rw [ByteArray.size_append]; show name.size + 1 ≤ _; omega
  have HRM := Lib.hid (remove_calls S bd D nm w h hok (by omega) hns)
  have HOK := Lib.hid hok
  have HR := Lib.hid hr
  have HS := Lib.hid hS
  have HNM := Lib.hid hnm
  have HL := Lib.hid hl
  have HF := Lib.hid hf
  have HA := Lib.hid hA
  have HNS := Lib.hid hns
  clear h hok hr hS hl hf hA hns hnm
  go_enter Try.func44, Try.ntmps44
  go_wp2_with fail
  rw [show name ++ (⟨#[126]⟩ : ByteArray) = nm from HNM.out.symm]
  refine HRM.out.mono ?_
  rintro e w1 ⟨rfl, o1, o2⟩
  have g1 := (grew_remove D nm)
  have hok1 := HOK.out.remove nm
  have hr1 : RdB w1 A n ys := HR.out.only o2 HS.out
  have hz1 := o2.size
  have HW := Lib.hid (write_calls S bd (D.remove nm) nm A n cap ys w1 o1 hok1 hr1 HA.out (Nat.le_trans g1.loose (Nat.le_trans HL.out (by decide))) (Nat.le_trans g1.files (Nat.le_trans HF.out (by decide))) HNS.out hn)
  have HG1 := Lib.hid g1
  have HOK1 := Lib.hid hok1
  have HO2 := Lib.hid o2
  have HZ1 := Lib.hid hz1
  have HYL := Lib.hid HR.out.len
  clear o1 o2 g1 hok1 hr1 HRM hz1
  go_wp2_with fail
  refine HW.out.mono ?_
  rintro e w2 ⟨rfl, ⟨new, p1, p2⟩, p3⟩
  have HP1 := Lib.hid p1
  have HP2 := Lib.hid (p2.mono (plus_more HZ1.out))
  have HP3 := Lib.hid (HO2.out.trans p3)
  clear p1 p2 p3 HW
  by_cases hw : writeE (D.remove nm) nm ys.length = 0
  · have HWE := Lib.hid hw
    rw [hw]
    clear hw
    obtain ⟨D1, hD1⟩ : ∃ D1, D1 = (D.remove nm).write nm ys new := ⟨_, rfl⟩
    have g2 := grew_write (D.remove nm) nm ys new
    rw [← hD1] at HP1 HP2 g2
    have HD1 := Lib.hid hD1
    clear hD1
    have hg : Grew D D1 1 := HG1.out.trans g2 (by omega)
    have HS1 := Lib.hid (sync_calls _ bd D1 nm w2 HP2.out HP1.out (Nat.le_trans hg.loose (Nat.le_trans (Nat.add_le_add_right HL.out 1) (by decide))) HNS.out)
    have HG := Lib.hid hg
    clear g2 hg
    go_wp2_with fail
    refine HS1.out.mono ?_
    rintro e w3 ⟨rfl, q1, q2⟩
    have g3 := grew_sync D1 nm
    have hg : Grew D (D1.sync nm) 1 := HG.out.trans g3 (by omega)
    have hok3 := HP1.out.sync nm
    have HRN := Lib.hid (rename_calls _ bd (D1.sync nm) nm name w3 q1 hok3 (Nat.le_trans hg.loose (Nat.le_trans (Nat.add_le_add_right HL.out 1) (by decide))) (Nat.le_trans hg.files (Nat.le_trans (Nat.add_le_add_right HF.out 1) (by decide))) HNS.out (by unfold maxLen; omega))
    have HQ2 := Lib.hid q2
    have HOK3 := Lib.hid hok3
    clear q1 q2 g3 hg hok3 HS1
    go_wp2_with fail
    refine HRN.out.mono ?_
    rintro e w4 ⟨rfl, r1, r2⟩
    have HR1 := Lib.hid r1
    have HR2 := Lib.hid r2
    clear r1 r2 HRN
    go_wp2_with fail
    go_ret
    refine ⟨_, _, rfl, ⟨new, D1, by rw [← HNM.out]; exact HD1.out, HP1.out, .inr ⟨by rw [← HNM.out]; exact HWE.out, by rw [← HNM.out], rfl⟩⟩, by rw [← HNM.out]; exact HOK3.out.rename nm name, by rw [← HNM.out]; exact HR1.out, ?_⟩
    exact HP3.out.trans' ((HQ2.out.trans HR2.out)) fun i hi => hi
  · have hw2 : (writeE (D.remove nm) nm ys.length == 0) = false := by simpa using hw
    have HWE := Lib.hid hw
    generalize hwe : writeE (D.remove nm) nm ys.length = we at *
    clear hw
    go_wp2_with fail
    go_ret
    obtain rfl := HNM.out
    exact ⟨we, _, rfl, ⟨new, _, rfl, HP1.out, .inl ⟨by rw [hwe]; exact HWE.out, hwe.symm, rfl⟩⟩, HP1.out, HP2.out, HP3.out⟩
end Go.Proofs.Ytideokbaenkijaa
