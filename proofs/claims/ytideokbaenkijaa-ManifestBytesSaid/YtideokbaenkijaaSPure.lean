/-
  A disk, plain: files with names, and what was written to them that doesn't last.
-/
import Derived.Test.YtideokbaenkijaaProg
namespace Go.Proofs.Ytideokbaenkijaa

/-- A file: its number is where it lies. -/
structure FileD where
  name : ByteArray
  id : Nat
  xs : List Int
  safe : Nat
  stays : Bool
structure DiskD where
  files : List FileD
  loose : List (Nat × Nat)
  limit : Nat

def sizeL (fs : List FileD) : Nat := (fs.map fun f => f.xs.length).sum
def looseL (l : List (Nat × Nat)) : Nat := (l.map fun p => p.2).sum
def looseOf (id : Nat) (l : List (Nat × Nat)) : Nat := looseL (l.filter fun p => decide (p.1 = id))
def findD (fs : List FileD) (name : ByteArray) : Option FileD := fs.find? fun f => decide (f.name = name)
def updD (id : Nat) (g : FileD → FileD) (fs : List FileD) : List FileD := fs.map fun f => if f.id = id then g f else f
def restD (id : Nat) (l : List (Nat × Nat)) : List (Nat × Nat) := l.filter fun p => decide (p.1 ≠ id)
def strikeD (id : Nat) (fs : List FileD) : List FileD := fs.filter fun f => decide (f.id ≠ id)

structure DiskD.Ok (D : DiskD) : Prop where
  names : D.files.Pairwise fun a b => a.name ≠ b.name
  ids : D.files.Pairwise fun a b => a.id ≠ b.id
  right : ∀ f ∈ D.files, 1 ≤ f.name.size ∧ f.name.size ≤ 16
  sums : ∀ f ∈ D.files, f.safe + looseOf f.id D.loose = f.xs.length
  known : ∀ p ∈ D.loose, ∃ f ∈ D.files, f.id = p.1
  fits : sizeL D.files ≤ D.limit
  small : D.limit ≤ 16777216

theorem findD_some {fs : List FileD} {name : ByteArray} {f : FileD} (h : findD fs name = some f) : f ∈ fs ∧ f.name = name :=
  ⟨List.mem_of_find?_eq_some h, by simpa using List.find?_some h⟩
theorem findD_none {fs : List FileD} {name : ByteArray} (h : findD fs name = none) : ∀ f ∈ fs, f.name ≠ name := fun f hf => by
  simpa using (List.find?_eq_none.1 h) f hf
theorem findD_none' {fs : List FileD} {name : ByteArray} (h : ∀ f ∈ fs, f.name ≠ name) : findD fs name = none :=
  List.find?_eq_none.2 fun f hf => by simpa using h f hf
theorem pair_inj {α β : Type} {g : α → β} : ∀ {l : List α}, l.Pairwise (fun a b => g a ≠ g b) → ∀ {a b : α}, a ∈ l → b ∈ l → g a = g b → a = b
  | [], _, a, _, h, _, _ => by cases h
  | x :: l, hp, a, b, ha, hb, e => by
    obtain ⟨h1, h2⟩ := List.pairwise_cons.1 hp
    rcases List.mem_cons.1 ha with ra | ha'
    · rcases List.mem_cons.1 hb with rb | hb'
      · rw [ra, rb]
      · exact absurd (ra ▸ e) (h1 b hb')
    · rcases List.mem_cons.1 hb with rb | hb'
      · exact absurd (rb ▸ e).symm (h1 a ha')
      · exact pair_inj h2 ha' hb' e
theorem findD_mem {fs : List FileD} (hn : fs.Pairwise fun a b => a.name ≠ b.name) {f : FileD} (hf : f ∈ fs) : findD fs f.name = some f := by
  cases h : findD fs f.name with
  | none => exact absurd rfl (findD_none h f hf)
  | some g =>
    obtain ⟨h1, h2⟩ := findD_some h
    rw [pair_inj (g := FileD.name) hn h1 hf h2]

theorem mem_updD {id : Nat} {g : FileD → FileD} {fs : List FileD} {f : FileD} (h : f ∈ updD id g fs) : ∃ q ∈ fs, f = if q.id = id then g q else q := by
  obtain ⟨q, hq, e⟩ := List.mem_map.1 h
  exact ⟨q, hq, e.symm⟩
theorem updD_mem {id : Nat} {g : FileD → FileD} {fs : List FileD} {q : FileD} (h : q ∈ fs) : (if q.id = id then g q else q) ∈ updD id g fs :=
  List.mem_map.2 ⟨q, h, rfl⟩
/-- A step that leaves names and numbers. -/
structure Keeps (g : FileD → FileD) : Prop where
  name : ∀ f, (g f).name = f.name
  id : ∀ f, (g f).id = f.id
theorem Keeps.name' {g : FileD → FileD} (hg : Keeps g) (id : Nat) (f : FileD) : (if f.id = id then g f else f).name = f.name := by
  split
  · exact hg.name f
  · rfl
theorem Keeps.id' {g : FileD → FileD} (hg : Keeps g) (id : Nat) (f : FileD) : (if f.id = id then g f else f).id = f.id := by
  split
  · exact hg.id f
  · rfl
theorem updD_names {id : Nat} {g : FileD → FileD} {fs : List FileD} (hg : Keeps g) (h : fs.Pairwise fun a b => a.name ≠ b.name) : (updD id g fs).Pairwise fun a b => a.name ≠ b.name :=
  List.pairwise_map.2 (h.imp fun {a b} hab => by rw [hg.name', hg.name']; exact hab)
theorem updD_ids {id : Nat} {g : FileD → FileD} {fs : List FileD} (hg : Keeps g) (h : fs.Pairwise fun a b => a.id ≠ b.id) : (updD id g fs).Pairwise fun a b => a.id ≠ b.id :=
  List.pairwise_map.2 (h.imp fun {a b} hab => by rw [hg.id', hg.id']; exact hab)
theorem updD_find {id : Nat} {g : FileD → FileD} (hg : Keeps g) (name : ByteArray) : ∀ fs : List FileD, findD (updD id g fs) name = (findD fs name).map fun f => if f.id = id then g f else f
  | [] => rfl
  | f :: fs => by
    unfold findD updD
    rw [List.map_cons, List.find?_cons, List.find?_cons, hg.name']
    by_cases h : f.name = name
    · rw [decide_eq_true h]; rfl
    · rw [decide_eq_false h]; exact updD_find hg name fs
theorem updD_size {id : Nat} {g : FileD → FileD} (hx : ∀ f, (g f).xs.length = f.xs.length) : ∀ fs : List FileD, sizeL (updD id g fs) = sizeL fs
  | [] => rfl
  | f :: fs => by
    have := updD_size (id := id) hx fs
    unfold sizeL updD at this ⊢
    simp only [List.map_cons, List.sum_cons]
    rw [this]
    split
    · rw [hx]
    · rfl

theorem loose_app (a b : List (Nat × Nat)) : looseL (a ++ b) = looseL a + looseL b := by simp [looseL]
theorem looseOf_app (id : Nat) (a b : List (Nat × Nat)) : looseOf id (a ++ b) = looseOf id a + looseOf id b := by
  unfold looseOf
  rw [List.filter_append, loose_app]
theorem looseOf_one (id k n : Nat) : looseOf id [(k, n)] = if k = id then n else 0 := by
  unfold looseOf
  by_cases h : k = id <;> simp [h, looseL]
theorem looseOf_cons (id : Nat) (p : Nat × Nat) (l : List (Nat × Nat)) : looseOf id (p :: l) = (if p.1 = id then p.2 else 0) + looseOf id l := by
  have := looseOf_app id [p] l
  rw [List.singleton_append] at this
  rw [this, looseOf_one]
theorem looseOf_none {id : Nat} {l : List (Nat × Nat)} (h : ∀ p ∈ l, p.1 ≠ id) : looseOf id l = 0 := by
  unfold looseOf
  rw [List.filter_eq_nil_iff.2 fun p hp => by simpa using h p hp]
  rfl
theorem looseOf_rest (id k : Nat) : ∀ l : List (Nat × Nat), looseOf id (restD k l) = if id = k then 0 else looseOf id l
  | [] => by
    show 0 = if id = k then 0 else 0
    split <;> rfl
  | p :: l => by
    have ih := looseOf_rest id k l
    unfold restD at ih ⊢
    rw [List.filter_cons]
    by_cases h : p.1 = k
    · rw [if_neg (by simp [h]), ih, looseOf_cons]
      by_cases e : id = k
      · rw [if_pos e, if_pos e]
      · rw [if_neg e, if_neg e, if_neg (by rw [h]; exact fun c => e c.symm), Nat.zero_add]
    · rw [if_pos (by simp [h]), looseOf_cons, looseOf_cons, ih]
      by_cases e : id = k
      · rw [if_pos e, if_pos e, if_neg (by rw [e]; exact h)]
      · rw [if_neg e, if_neg e]
theorem size_app (a b : List FileD) : sizeL (a ++ b) = sizeL a + sizeL b := by simp [sizeL]
theorem size_cons (f : FileD) (l : List FileD) : sizeL (f :: l) = f.xs.length + sizeL l := by simp [sizeL]
theorem size_mem : ∀ {fs : List FileD} {f : FileD}, f ∈ fs → f.xs.length ≤ sizeL fs
  | [], f, h => by cases h
  | q :: fs, f, h => by
    rw [size_cons]
    rcases List.mem_cons.1 h with rfl | h
    · omega
    · have := size_mem h; omega
theorem size_filter (p : FileD → Bool) : ∀ fs : List FileD, sizeL (fs.filter p) ≤ sizeL fs
  | [] => Nat.le_refl _
  | f :: fs => by
    have := size_filter p fs
    rw [List.filter_cons, size_cons]
    split
    · rw [size_cons]; omega
    · omega

/-! ### what a disk's calls do -/
def DiskD.put (D : DiskD) (name : ByteArray) (id : Nat) : DiskD := { D with files := D.files ++ [⟨name, id, [], 0, false⟩] }
def addF (ys : List Int) (f : FileD) : FileD := { f with xs := f.xs ++ ys }
def lastF (f : FileD) : FileD := { f with safe := f.xs.length, stays := true }
def nameF (name : ByteArray) (f : FileD) : FileD := { f with name := name, stays := true }
def DiskD.grow (D : DiskD) (id : Nat) (ys : List Int) : DiskD := { D with files := updD id (addF ys) D.files, loose := D.loose ++ [(id, ys.length)] }
def DiskD.last (D : DiskD) (id : Nat) : DiskD := { D with files := updD id lastF D.files, loose := restD id D.loose }
def DiskD.drop (D : DiskD) (id : Nat) : DiskD := { D with files := strikeD id D.files, loose := restD id D.loose }
theorem addF_keeps (ys : List Int) : Keeps (addF ys) := ⟨fun _ => rfl, fun _ => rfl⟩
theorem lastF_keeps : Keeps lastF := ⟨fun _ => rfl, fun _ => rfl⟩

theorem ok_new (n : Nat) (h : n ≤ 16777216) : DiskD.Ok ⟨[], [], n⟩ :=
  ⟨List.Pairwise.nil, List.Pairwise.nil, by simp, by simp, by simp, by simp [sizeL], h⟩
theorem DiskD.Ok.put {D : DiskD} (h : D.Ok) {name : ByteArray} {id : Nat} (hn : ∀ f ∈ D.files, f.name ≠ name) (hi : ∀ f ∈ D.files, f.id ≠ id) (h1 : 1 ≤ name.size) (h2 : name.size ≤ 16) : (D.put name id).Ok where
  names := List.pairwise_append.2 ⟨h.names, List.pairwise_singleton _ _, fun a ha b hb => by rw [List.mem_singleton.1 hb]; exact hn a ha⟩
  ids := List.pairwise_append.2 ⟨h.ids, List.pairwise_singleton _ _, fun a ha b hb => by rw [List.mem_singleton.1 hb]; exact hi a ha⟩
  right f hf := by
    rcases List.mem_append.1 hf with hf | hf
    · exact h.right f hf
    · rw [List.mem_singleton.1 hf]; exact ⟨h1, h2⟩
  sums f hf := by
    rcases List.mem_append.1 hf with hf | hf
    · exact h.sums f hf
    · rw [List.mem_singleton.1 hf]
      refine (Nat.zero_add _).trans (looseOf_none fun p hp => ?_)
      obtain ⟨q, hq, e⟩ := h.known p hp
      rw [← e]
      exact hi q hq
  known p hp := by
    obtain ⟨q, hq, e⟩ := h.known p hp
    exact ⟨q, List.mem_append_left _ hq, e⟩
  fits := by
    have := h.fits
    show sizeL (D.files ++ _) ≤ _
    rw [size_app]
    exact this
  small := h.small
theorem size_grow {id : Nat} {ys : List Int} : ∀ {fs : List FileD}, fs.Pairwise (fun a b => a.id ≠ b.id) → sizeL (updD id (addF ys) fs) ≤ sizeL fs + ys.length
  | [], _ => Nat.zero_le _
  | f :: fs, hp => by
    obtain ⟨h1, h2⟩ := List.pairwise_cons.1 hp
    unfold updD
    rw [List.map_cons, size_cons, size_cons]
    have ih := size_grow (id := id) (ys := ys) h2
    unfold updD at ih
    by_cases e : f.id = id
    · rw [if_pos e]
      have : fs.map (fun q => if q.id = id then addF ys q else q) = fs := by
        conv => rhs; rw [← List.map_id fs]
        exact List.map_congr_left fun q hq => if_neg (fun c => h1 q hq (e.trans c.symm))
      rw [this]
      show (f.xs ++ ys).length + _ ≤ _
      rw [List.length_append]
      omega
    · rw [if_neg e]
      omega
theorem size_grow_eq {id : Nat} {ys : List Int} : ∀ {fs : List FileD}, fs.Pairwise (fun a b => a.id ≠ b.id) → (∃ f ∈ fs, f.id = id) → sizeL (updD id (addF ys) fs) = sizeL fs + ys.length
  | [], _, h => by obtain ⟨f, hf, _⟩ := h; cases hf
  | f :: fs, hp, hex => by
    obtain ⟨h1, h2⟩ := List.pairwise_cons.1 hp
    unfold updD
    rw [List.map_cons, size_cons, size_cons]
    by_cases e : f.id = id
    · rw [if_pos e]
      have : fs.map (fun q => if q.id = id then addF ys q else q) = fs := by
        conv => rhs; rw [← List.map_id fs]
        exact List.map_congr_left fun q hq => if_neg (fun c => h1 q hq (e.trans c.symm))
      rw [this]
      show (f.xs ++ ys).length + _ = _
      rw [List.length_append]
      omega
    · rw [if_neg e]
      obtain ⟨q, hq, eq⟩ := hex
      have ih := size_grow_eq (id := id) (ys := ys) h2 (by
        rcases List.mem_cons.1 hq with rfl | hq
        · exact absurd eq e
        · exact ⟨q, hq, eq⟩)
      unfold updD at ih
      rw [ih]
      omega
theorem DiskD.Ok.grow {D : DiskD} (h : D.Ok) {id : Nat} {ys : List Int} (hid : ∃ f ∈ D.files, f.id = id) (hs : sizeL D.files + ys.length ≤ D.limit) : (D.grow id ys).Ok where
  names := updD_names (addF_keeps ys) h.names
  ids := updD_ids (addF_keeps ys) h.ids
  right f hf := by
    obtain ⟨q, hq, rfl⟩ := mem_updD hf
    rw [(addF_keeps ys).name']
    exact h.right q hq
  sums f hf := by
    obtain ⟨q, hq, rfl⟩ := mem_updD hf
    have := h.sums q hq
    show _ + looseOf _ (D.loose ++ [(id, ys.length)]) = _
    rw [looseOf_app, looseOf_one, (addF_keeps ys).id']
    by_cases e : q.id = id
    · rw [if_pos e, if_pos e.symm]
      show q.safe + _ = (q.xs ++ ys).length
      rw [List.length_append]
      omega
    · rw [if_neg e, if_neg (fun c => e c.symm)]
      omega
  known p hp := by
    rcases List.mem_append.1 hp with hp | hp
    · obtain ⟨q, hq, e⟩ := h.known p hp
      exact ⟨_, updD_mem hq, by rw [(addF_keeps ys).id']; exact e⟩
    · obtain ⟨q, hq, e⟩ := hid
      rw [List.mem_singleton.1 hp]
      exact ⟨_, updD_mem hq, by rw [(addF_keeps ys).id']; exact e⟩
  fits := Nat.le_trans (size_grow h.ids) hs
  small := h.small
theorem mem_rest {id : Nat} {l : List (Nat × Nat)} {p : Nat × Nat} (h : p ∈ restD id l) : p ∈ l ∧ p.1 ≠ id := by
  obtain ⟨h1, h2⟩ := List.mem_filter.1 h
  exact ⟨h1, by simpa using h2⟩
theorem mem_strike {id : Nat} {l : List FileD} {f : FileD} : f ∈ strikeD id l ↔ f ∈ l ∧ f.id ≠ id := by
  unfold strikeD
  rw [List.mem_filter]
  simp
theorem DiskD.Ok.last {D : DiskD} (h : D.Ok) (id : Nat) : (D.last id).Ok where
  names := updD_names lastF_keeps h.names
  ids := updD_ids lastF_keeps h.ids
  right f hf := by
    obtain ⟨q, hq, rfl⟩ := mem_updD hf
    rw [lastF_keeps.name']
    exact h.right q hq
  sums f hf := by
    obtain ⟨q, hq, rfl⟩ := mem_updD hf
    have := h.sums q hq
    show _ + looseOf _ (restD id D.loose) = _
    rw [looseOf_rest, lastF_keeps.id']
    by_cases e : q.id = id
    · rw [if_pos e, if_pos e]
      rfl
    · rw [if_neg e, if_neg e]
      exact this
  known p hp := by
    obtain ⟨q, hq, e⟩ := h.known p (mem_rest hp).1
    exact ⟨_, updD_mem hq, by rw [lastF_keeps.id']; exact e⟩
  fits := by
    show sizeL (updD id lastF D.files) ≤ _
    rw [updD_size (g := lastF) fun _ => rfl]
    exact h.fits
  small := h.small
theorem DiskD.Ok.drop {D : DiskD} (h : D.Ok) (id : Nat) : (D.drop id).Ok where
  names := h.names.filter _
  ids := h.ids.filter _
  right f hf := h.right f (mem_strike.1 hf).1
  sums f hf := by
    obtain ⟨h1, h2⟩ := mem_strike.1 hf
    show _ + looseOf _ (restD id D.loose) = _
    rw [looseOf_rest, if_neg h2]
    exact h.sums f h1
  known p hp := by
    obtain ⟨h1, h2⟩ := mem_rest hp
    obtain ⟨q, hq, e⟩ := h.known p h1
    exact ⟨q, mem_strike.2 ⟨hq, by rw [e]; exact h2⟩, e⟩
  fits := Nat.le_trans (size_filter _ _) h.fits
  small := h.small
end Go.Proofs.Ytideokbaenkijaa
