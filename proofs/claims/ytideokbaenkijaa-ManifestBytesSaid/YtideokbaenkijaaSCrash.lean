/-
  A crash, plain.
-/
import Derived.Test.YtideokbaenkijaaSWriteW
namespace Go.Proofs.Ytideokbaenkijaa

/-- One write that may be kept in part. -/
def keepF (n : Nat) (f : FileD) : FileD := { f with safe := f.safe + n, stays := f.stays || decide (0 < n) }
theorem keepF_keeps (n : Nat) : Keeps (keepF n) := ⟨fun _ => rfl, fun _ => rfl⟩
def crashStep (s : List FileD × Nat) (p : Nat × Nat) : List FileD × Nat := (updD p.1 (keepF (min s.2 p.2)) s.1, s.2 - min s.2 p.2)
def crashed (l : List (Nat × Nat)) (s : List FileD × Nat) : List FileD × Nat := l.foldl crashStep s
theorem crashed_snoc (l : List (Nat × Nat)) (p : Nat × Nat) (s : List FileD × Nat) : crashed (l ++ [p]) s = crashStep (crashed l s) p := by
  unfold crashed
  rw [List.foldl_append]
  rfl
def cutF (f : FileD) : FileD := { f with xs := f.xs.take f.safe }
def DiskD.crash (D : DiskD) (keep : Nat) : DiskD := { files := ((crashed D.loose (D.files, keep)).1.filter fun f => f.stays).map cutF, loose := [], limit := D.limit }

/-- A file later on: of what was in it all is there, no less lasts. -/
structure Later (f g : FileD) : Prop where
  name : g.name = f.name
  id : g.id = f.id
  xs : g.xs = f.xs
  safe : f.safe ≤ g.safe
  stays : f.stays = true → g.stays = true
theorem Later.refl (f : FileD) : Later f f := ⟨rfl, rfl, rfl, Nat.le_refl _, fun h => h⟩
theorem Later.trans {a b c : FileD} (h : Later a b) (k : Later b c) : Later a c :=
  ⟨k.name.trans h.name, k.id.trans h.id, k.xs.trans h.xs, Nat.le_trans h.safe k.safe, fun s => k.stays (h.stays s)⟩
theorem later_step (id n : Nat) (f : FileD) : Later f (if f.id = id then keepF n f else f) := by
  split
  · exact ⟨rfl, rfl, rfl, Nat.le_add_right _ _, fun h => by show (f.stays || _) = true; rw [h]; rfl⟩
  · exact Later.refl f
/-- Files one by one. -/
inductive Laters : List FileD → List FileD → Prop
  | nil : Laters [] []
  | cons {f g : FileD} {fs gs : List FileD} : Later f g → Laters fs gs → Laters (f :: fs) (g :: gs)
theorem Laters.refl : ∀ fs : List FileD, Laters fs fs
  | [] => .nil
  | f :: fs => .cons (Later.refl f) (Laters.refl fs)
theorem Laters.trans {a b c : List FileD} (h : Laters a b) : Laters b c → Laters a c := by
  induction h generalizing c with
  | nil => exact fun k => k
  | cons h1 _ ih => intro k; cases k with | cons k1 k2 => exact .cons (h1.trans k1) (ih k2)
theorem laters_upd (id n : Nat) : ∀ fs : List FileD, Laters fs (updD id (keepF n) fs)
  | [] => .nil
  | f :: fs => .cons (later_step id n f) (laters_upd id n fs)
theorem laters_crashed : ∀ (l : List (Nat × Nat)) (s : List FileD × Nat), Laters s.1 (crashed l s).1
  | [], _ => Laters.refl _
  | p :: l, s => (laters_upd p.1 _ s.1).trans (laters_crashed l (crashStep s p))
theorem Laters.mem {fs gs : List FileD} (h : Laters fs gs) : ∀ {g : FileD}, g ∈ gs → ∃ f ∈ fs, Later f g := by
  induction h with
  | nil => intro g hg; cases hg
  | @cons f' g' fs' gs' h1 h2 ih =>
    intro g hg
    rcases List.mem_cons.1 hg with rfl | hg
    · exact ⟨f', by simp, h1⟩
    · obtain ⟨f, hf, hl⟩ := ih hg
      exact ⟨f, by simp [hf], hl⟩
theorem Laters.mem' {fs gs : List FileD} (h : Laters fs gs) : ∀ {f : FileD}, f ∈ fs → ∃ g ∈ gs, Later f g := by
  induction h with
  | nil => intro g hg; cases hg
  | @cons f' g' fs' gs' h1 h2 ih =>
    intro f hf
    rcases List.mem_cons.1 hf with rfl | hf
    · exact ⟨g', by simp, h1⟩
    · obtain ⟨g, hg, hl⟩ := ih hf
      exact ⟨g, by simp [hg], hl⟩
theorem Laters.size {fs gs : List FileD} (h : Laters fs gs) : sizeL gs = sizeL fs := by
  induction h with
  | nil => rfl
  | cons h1 _ ih => rw [size_cons, size_cons, h1.xs, ih]
theorem Laters.len {fs gs : List FileD} (h : Laters fs gs) : gs.length = fs.length := by
  induction h with
  | nil => rfl
  | cons _ _ ih => rw [List.length_cons, List.length_cons, ih]
theorem Laters.names {fs gs : List FileD} (h : Laters fs gs) (hn : fs.Pairwise fun a b => a.name ≠ b.name) : gs.Pairwise fun a b => a.name ≠ b.name := by
  induction h with
  | nil => exact List.Pairwise.nil
  | cons h1 h2 ih =>
    obtain ⟨n1, n2⟩ := List.pairwise_cons.1 hn
    refine List.pairwise_cons.2 ⟨fun q hq => ?_, ih n2⟩
    obtain ⟨p, hp, hl⟩ := h2.mem hq
    rw [h1.name, hl.name]
    exact n1 p hp
theorem Laters.ids {fs gs : List FileD} (h : Laters fs gs) (hn : fs.Pairwise fun a b => a.id ≠ b.id) : gs.Pairwise fun a b => a.id ≠ b.id := by
  induction h with
  | nil => exact List.Pairwise.nil
  | cons h1 h2 ih =>
    obtain ⟨n1, n2⟩ := List.pairwise_cons.1 hn
    refine List.pairwise_cons.2 ⟨fun q hq => ?_, ih n2⟩
    obtain ⟨p, hp, hl⟩ := h2.mem hq
    rw [h1.id, hl.id]
    exact n1 p hp
/-- What lasts is no more than there is. -/
theorem crashed_safe : ∀ (l : List (Nat × Nat)) (s : List FileD × Nat), (∀ f ∈ s.1, f.safe + looseOf f.id l ≤ f.xs.length) → ∀ g ∈ (crashed l s).1, g.safe ≤ g.xs.length
  | [], s, h, g, hg => by have := h g hg; omega
  | p :: l, s, h, g, hg => by
    refine crashed_safe l (crashStep s p) (fun f hf => ?_) g hg
    obtain ⟨q, hq, rfl⟩ := mem_updD hf
    have := h q hq
    rw [looseOf_cons] at this
    rw [(keepF_keeps _).id']
    have hmin := Nat.min_le_right s.2 p.2
    by_cases e : q.id = p.1
    · rw [if_pos e]
      rw [if_pos e.symm] at this
      show q.safe + min s.2 p.2 + _ ≤ q.xs.length
      omega
    · rw [if_neg e]
      omega
theorem crash_mem {D : DiskD} {k : Nat} {f : FileD} (h : f ∈ (D.crash k).files) : ∃ g ∈ (crashed D.loose (D.files, k)).1, g.stays = true ∧ f = cutF g := by
  obtain ⟨g, hg, rfl⟩ := List.mem_map.1 h
  obtain ⟨h1, h2⟩ := List.mem_filter.1 hg
  exact ⟨g, h1, h2, rfl⟩
theorem DiskD.Ok.crash {D : DiskD} (h : D.Ok) (k : Nat) : (D.crash k).Ok := by
  have hl := laters_crashed D.loose (D.files, k)
  have hs := crashed_safe D.loose (D.files, k) fun f hf => Nat.le_of_eq (h.sums f hf)
  refine ⟨?_, ?_, fun f hf => ?_, fun f hf => ?_, (fun p hp => by cases hp), ?_, h.small⟩
  · exact List.pairwise_map.2 ((hl.names h.names).filter _)
  · exact List.pairwise_map.2 ((hl.ids h.ids).filter _)
  · obtain ⟨g, hg, _, rfl⟩ := crash_mem hf
    obtain ⟨q, hq, e⟩ := hl.mem hg
    show 1 ≤ g.name.size ∧ g.name.size ≤ 16
    rw [e.name]
    exact h.right q hq
  · obtain ⟨g, hg, _, rfl⟩ := crash_mem hf
    show g.safe + 0 = (g.xs.take g.safe).length
    rw [List.length_take, Nat.min_eq_left (hs g hg), Nat.add_zero]
  · have h1 : ∀ fs : List FileD, sizeL (fs.map cutF) ≤ sizeL fs := fun fs => by
      induction fs with
      | nil => exact Nat.le_refl _
      | cons f fs ih =>
        rw [List.map_cons, size_cons, size_cons]
        have : (cutF f).xs.length ≤ f.xs.length := by
          show (f.xs.take f.safe).length ≤ _
          rw [List.length_take]
          exact Nat.min_le_right _ _
        omega
    refine Nat.le_trans (h1 _) (Nat.le_trans (size_filter _ _) ?_)
    rw [hl.size]
    exact h.fits

/-! ### the files, one by one: left says which are still to come -/
theorem cutF_keeps : Keeps cutF := ⟨fun _ => rfl, fun _ => rfl⟩
def procF (left : Lit → Bool) (fs : List FileD) : List FileD := (fs.filter fun f => left (keyS f.name) || f.stays).map fun f => if left (keyS f.name) then f else cutF f
theorem proc_mem {left : Lit → Bool} {fs : List FileD} {f : FileD} (h : f ∈ fs) (hl : left (keyS f.name) = true) : f ∈ procF left fs :=
  List.mem_map.2 ⟨f, List.mem_filter.2 ⟨h, by rw [hl]; rfl⟩, by rw [if_pos hl]⟩
theorem proc_from {left : Lit → Bool} {fs : List FileD} {g : FileD} (h : g ∈ procF left fs) : ∃ f ∈ fs, g.name = f.name ∧ g.id = f.id ∧ (g = f ∨ (left (keyS f.name) = false ∧ g = cutF f)) := by
  obtain ⟨f, hf, rfl⟩ := List.mem_map.1 h
  have h1 := (List.mem_filter.1 hf).1
  by_cases e : left (keyS f.name) = true
  · rw [if_pos e]
    exact ⟨f, h1, rfl, rfl, .inl rfl⟩
  · rw [if_neg e]
    exact ⟨f, h1, rfl, rfl, .inr ⟨by simpa using e, rfl⟩⟩
theorem proc_start {left : Lit → Bool} {fs : List FileD} (h : ∀ f ∈ fs, left (keyS f.name) = true) : procF left fs = fs := by
  unfold procF
  rw [List.filter_eq_self.2 fun f hf => by rw [h f hf]; rfl]
  conv => rhs; rw [← List.map_id fs]
  exact List.map_congr_left fun f hf => by rw [if_pos (h f hf)]; rfl
theorem proc_end {left : Lit → Bool} {fs : List FileD} (h : ∀ k, left k = false) : procF left fs = (fs.filter fun f => f.stays).map cutF := by
  unfold procF
  have : (fs.filter fun f => left (keyS f.name) || f.stays) = fs.filter fun f => f.stays := List.filter_congr fun f _ => by rw [h]; rfl
  rw [this]
  exact List.map_congr_left fun f _ => by rw [if_neg (by rw [h]; simp)]
theorem upd_self {id : Nat} {g : FileD → FileD} {fs : List FileD} (h : ∀ f ∈ fs, f.id ≠ id) : updD id g fs = fs := by
  unfold updD
  conv => rhs; rw [← List.map_id fs]
  exact List.map_congr_left fun f hf => if_neg (h f hf)
theorem strike_self {id : Nat} {fs : List FileD} (h : ∀ f ∈ fs, f.id ≠ id) : strikeD id fs = fs := List.filter_eq_self.2 fun f hf => by simpa using h f hf
theorem proc_congr {left left' : Lit → Bool} {fs : List FileD} (h : ∀ f ∈ fs, left' (keyS f.name) = left (keyS f.name)) : procF left' fs = procF left fs := by
  unfold procF
  have h1 : (fs.filter fun f => left' (keyS f.name) || f.stays) = fs.filter fun f => left (keyS f.name) || f.stays := List.filter_congr fun f hf => by rw [h f hf]
  rw [h1]
  exact List.map_congr_left fun f hf => by rw [h f (List.mem_filter.1 hf).1]
theorem proc_cons (left : Lit → Bool) (q : FileD) (fs : List FileD) : procF left (q :: fs) = if left (keyS q.name) then q :: procF left fs else if q.stays then cutF q :: procF left fs else procF left fs := by
  unfold procF
  cases h1 : left (keyS q.name) <;> cases h2 : q.stays <;> simp [h1, h2]
theorem proc_step (left : Lit → Bool) : ∀ {fs : List FileD}, fs.Pairwise (fun a b => a.name ≠ b.name) → fs.Pairwise (fun a b => a.id ≠ b.id) → ∀ {f : FileD}, f ∈ fs → left (keyS f.name) = true →
    procF (fun z => left z && !z.sameKey (keyS f.name)) fs = if f.stays then updD f.id cutF (procF left fs) else strikeD f.id (procF left fs)
  | [], _, _, f, h, _ => by cases h
  | q :: fs, hp, hi, f, hf, hl => by
    obtain ⟨h1, h2⟩ := List.pairwise_cons.1 hp
    obtain ⟨i1, i2⟩ := List.pairwise_cons.1 hi
    have hids : ∀ g ∈ procF left fs, ∃ r ∈ fs, g.id = r.id := fun g hg => by
      obtain ⟨r, hr, _, e, _⟩ := proc_from hg
      exact ⟨r, hr, e⟩
    rw [proc_cons, proc_cons]
    rcases List.mem_cons.1 hf with rfl | hf
    · have hno : ∀ g ∈ procF left fs, g.id ≠ f.id := fun g hg e => by
        obtain ⟨r, hr, e2⟩ := hids g hg
        exact i1 r hr (e.symm.trans e2)
      have hc : procF (fun z => left z && !z.sameKey (keyS f.name)) fs = procF left fs := proc_congr fun q hq => by
        rw [key_same, decide_eq_false (fun e => h1 q hq e.symm)]; simp
      rw [hc]
      simp only [hl, key_same, decide_true, Bool.not_true, Bool.and_false, Bool.false_eq_true, if_false, if_true]
      split
      · show cutF f :: _ = (if f.id = f.id then cutF f else f) :: updD f.id cutF (procF left fs)
        rw [if_pos rfl, upd_self hno]
      · show _ = (f :: procF left fs).filter _
        rw [List.filter_cons_of_neg (by simp)]
        exact (strike_self hno).symm
    · have hne := h1 f hf
      have hine := i1 f hf
      rw [proc_step left h2 i2 hf hl]
      have hl' : (left (keyS q.name) && !(keyS q.name).sameKey (keyS f.name)) = left (keyS q.name) := by
        rw [key_same, decide_eq_false hne]; simp
      simp only [hl']
      cases left (keyS q.name) <;> cases q.stays <;> cases f.stays <;> simp [updD, strikeD, hine, cutF]
end Go.Proofs.Ytideokbaenkijaa
