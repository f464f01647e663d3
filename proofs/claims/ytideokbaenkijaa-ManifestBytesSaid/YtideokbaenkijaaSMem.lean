/-
  How a disk lies: its block, its map, its writes; its files.
-/
import Derived.Test.YtideokbaenkijaaSDel
import Derived.Maps.RangeWalk
import Derived.Maps.Ext
import Derived.Sort.KeysCollected
import Derived.Lib.Builder
namespace Go.Proofs.Ytideokbaenkijaa
open Go.RowKit Go.Maps

section
variable {α : Type}
theorem own_ne {E T : TypeId} {sz : Nat} {enc : α → List Value} {w : World} {base g n cap k : Nat} {xs : List α} {cs : Array Value} {f : Nat × Nat} (h : Own E sz enc w base (some ⟨g, 0, none⟩) n cap xs) (hk : w.heap[k]? = some (.cells cs T f)) (hT : T ≠ E) : k ≠ g := by
  rintro rfl
  obtain ⟨_, _, h2 | ⟨g', cap', cur, h3, _, h5, _⟩⟩ := h
  · obtain ⟨h2, _⟩ := h2
    injection h2 with h2
    cases h2
  · injection h3 with h3
    injection h3 with h3
    injection h3 with h3
    subst h3
    rw [hk] at h5
    injection h5 with h5
    injection h5 with _ h5
    exact hT h5
theorem own_ne_map {E : TypeId} {sz : Nat} {enc : α → List Value} {w : World} {base g n cap b m : Nat} {xs : List α} {H : Type} {P : Program} {k : TypeId} {R : Value → Option (DataW H × List MemPlace)} {D : DataW H} (h : Own E sz enc w base (some ⟨g, 0, none⟩) n cap xs) (hm : w.ownsMap P k R b m D) : b ≠ g := by
  rintro rfl
  obtain ⟨es, clock, hb, _⟩ := hm
  obtain ⟨_, _, h2 | ⟨g', cap', cur, h3, _, h5, _⟩⟩ := h
  · obtain ⟨h2, _⟩ := h2
    injection h2 with h2
    cases h2
  · injection h3 with h3
    injection h3 with h3
    injection h3 with h3
    subst h3
    rw [hb] at h5
    cases h5
theorem own_ne_own {β : Type} {E F : TypeId} {sz tz : Nat} {enc : α → List Value} {fnc : β → List Value} {w : World} {base base' g k n m cap cap' : Nat} {xs : List α} {ys : List β} (h : Own E sz enc w base (some ⟨g, 0, none⟩) n cap xs) (h' : Own F tz fnc w base' (some ⟨k, 0, none⟩) m cap' ys) (hT : F ≠ E) : k ≠ g := by
  obtain ⟨_, _, h2 | ⟨g', c, cur, h3, _, h5, _⟩⟩ := h'
  · obtain ⟨h2, _⟩ := h2
    injection h2 with h2
    cases h2
  · injection h3 with h3
    injection h3 with h3
    injection h3 with h3
    subst h3
    exact own_ne h h5 hT
end
theorem map_ne {w : World} {b m k : Nat} {T : TypeId} {cs : Array Value} {f : Nat × Nat} {H : Type} {P : Program} {kt : TypeId} {R : Value → Option (DataW H × List MemPlace)} {D : DataW H} (hm : w.ownsMap P kt R b m D) (hk : w.heap[k]? = some (.cells cs T f)) : k ≠ b := by
  rintro rfl
  obtain ⟨es, clock, hb, _⟩ := hm
  rw [hb] at hk
  cases hk
theorem block_ne {w : World} {a b : Nat} {T U : TypeId} {cs ds : Array Value} {f g : Nat × Nat} (ha : w.heap[a]? = some (.cells cs T f)) (hb : w.heap[b]? = some (.cells ds U g)) (h : T ≠ U) : a ≠ b := by
  rintro rfl
  rw [ha] at hb
  injection hb with hb
  injection hb with _ hb
  exact h hb
theorem _root_.Go.RowKit.Only.keep {S : Nat → Prop} {w w' : World} {k : Nat} {o : Obj} (h : Only S w w') (hk : w.heap[k]? = some o) (hS : ¬ S k) : w'.heap[k]? = some o :=
  (h.block k (Array.getElem?_eq_some_iff.1 hk).1 hS).trans hk
theorem map_only {w w' : World} {b m : Nat} {H : Type} {P : Program} {kt : TypeId} {R : Value → Option (DataW H × List MemPlace)} {D : DataW H} {S : Nat → Prop} (hm : w.ownsMap P kt R b m D) (ho : Only S w w') (hS : ¬ S b) : w'.ownsMap P kt R b m D := by
  obtain ⟨es, clock, hb, F, hs, hD⟩ := hm
  exact ⟨es, clock, ho.keep hb hS, F, hs, hD⟩
theorem turned_only {w w' : World} {b : Nat} (h : w.mapTurned w' b) : Only (fun k => k = b) w w' := (grownBy_only h.grown).mono fun k _ hk => by injection hk with hk; exact hk.symm
theorem map_tight {w : World} {b m : Nat} {H : Type} {P : Program} {kt : TypeId} {R : Value → Option (DataW H × List MemPlace)} {D : DataW H} (hm : w.ownsMap P kt R b m D) : w.ownsMap P kt R b (Maps.size D) D := by
  obtain ⟨es, clock, hb, F, hs, rfl⟩ := hm
  exact ⟨es, clock, hb, F, by simp [Maps.size, length_sorted], rfl⟩

/-- How a pointer to a file reads, where it is a map's element. -/
def ptrE : Value → Option (DataW Unit × List MemPlace)
  | .pointer none => some (.nil, [])
  | .pointer (some ⟨b, 0, none⟩) => some (.lit (.int .i64 b), [])
  | _ => none
theorem ptrE_nil {v : Value} {ps : List MemPlace} (h : ptrE v = some (.nil, ps)) : v = .pointer none := by
  unfold ptrE at h
  split at h
  · rfl
  · cases h
  · cases h
theorem ptrE_lit {v : Value} {ps : List MemPlace} {b : Nat} (h : ptrE v = some (.lit (.int .i64 b), ps)) : v = .pointer (some ⟨b, 0, none⟩) := by
  unfold ptrE at h
  split at h
  · cases h
  · injection h with h
    injection h with h
    injection h with h
    injection h with _ h
    rw [Int.ofNat.inj h]
  · cases h
/-- A name, as a key reads. -/
def keyS (s : ByteArray) : Lit := .string s.data.toList
theorem keyS_inj {a b : ByteArray} (h : keyS a = keyS b) : a = b := by
  injection h with h
  exact ByteArray.ext (Array.ext' h)
theorem keyedS : Keyed Try.prog 9 := string_keyed Try.underlying9
theorem keyS_of {s : ByteArray} (h : s.size ≤ maxLen) : keyOf Try.prog 9 (.string s) = some (keyS s) := Go.WideMaps.keyOf_string_mk Try.underlying9 h
theorem zeroP (w : World) : (zeroValue 82).run Try.prog w = .ok (.pointer none) w := by kernel_rfl
theorem keyS_key (s : ByteArray) : WideAt.IsKeyLit (keyS s) := by exact trivial

/-- The map's entries are these files. -/
structure Reads (M : DataW Unit) (fs : List FileD) : Prop where
  has : ∀ k, Maps.has M k = true → ∃ f ∈ fs, k = keyS f.name
  at_ : ∀ f ∈ fs, ∀ z, M.atKey (keyS f.name) z = .lit (.int .i64 f.id)
  size : Maps.size M = fs.length
abbrev MapAt (w : World) (bm : Nat) (M : DataW Unit) : Prop := w.ownsMap Try.prog 9 ptrE bm (Maps.size M) M
theorem Reads.none {M : DataW Unit} {fs : List FileD} (h : Reads M fs) {name : ByteArray} (hn : ∀ f ∈ fs, f.name ≠ name) : Maps.has M (keyS name) = false := by
  cases hh : Maps.has M (keyS name) with
  | false => rfl
  | true =>
    obtain ⟨f, hf, e⟩ := h.has _ hh
    exact absurd (keyS_inj e).symm (hn f hf)
def ptrOf : Option FileD → Value
  | none => .pointer none
  | some f => .pointer (some ⟨f.id, 0, none⟩)
/-- m[name]. -/
theorem look_run {w : World} {bm : Nat} {M : DataW Unit} {fs : List FileD} (h : MapAt w bm M) (hr : Reads M fs) (name : ByteArray) (hs : name.size ≤ maxLen) :
    (Instr.lookup 73 (.map (some bm)) (.string name) false).run Try.prog w = .ok (ptrOf (findD fs name)) w := by
  obtain ⟨v, ps, hrun, hv⟩ := h.lookup keyedS Try.underlying73 (zeroP w) (zd := .nil) (zp := []) rfl (keyS_of hs)
  rw [hrun]
  cases hf : findD fs name with
  | none =>
    rw [atKey_of_not_has (hr.none (findD_none hf))] at hv
    rw [ptrE_nil hv]
    rfl
  | some f =>
    obtain ⟨h1, rfl⟩ := findD_some hf
    rw [hr.at_ f h1] at hv
    rw [ptrE_lit hv]
    rfl
theorem Reads.upd {M : DataW Unit} {fs : List FileD} (h : Reads M fs) (id : Nat) {g : FileD → FileD} (hg : Keeps g) : Reads M (updD id g fs) where
  has k hk := by
    obtain ⟨f, hf, e⟩ := h.has k hk
    exact ⟨_, updD_mem hf, by rw [hg.name']; exact e⟩
  at_ f hf z := by
    obtain ⟨q, hq, rfl⟩ := mem_updD hf
    rw [hg.name', hg.id']
    exact h.at_ q hq z
  size := by rw [h.size]; simp [updD]
theorem Reads.put {M : DataW Unit} {fs : List FileD} (h : Reads M fs) (ht : Tidy M) {f : FileD} (hn : ∀ q ∈ fs, q.name ≠ f.name) : Reads (M.put (keyS f.name) (.lit (.int .i64 f.id))) (fs ++ [f]) where
  has k hk := by
    by_cases e : k = keyS f.name
    · exact ⟨f, by simp, e⟩
    · rw [has_put_other e] at hk
      obtain ⟨q, hq, e⟩ := h.has k hk
      exact ⟨q, List.mem_append_left _ hq, e⟩
  at_ q hq z := by
    rcases List.mem_append.1 hq with hq | hq
    · rw [atKey_put_other (fun e => hn q hq (keyS_inj e))]
      exact h.at_ q hq z
    · rw [List.mem_singleton.1 hq, atKey_put_same ht.isMap (keyS_key _)]
  size := by
    rw [size_put ht, h.none hn, h.size]
    simp
theorem strike_len {fs : List FileD} : ∀ {f : FileD}, fs.Pairwise (fun a b => a.id ≠ b.id) → f ∈ fs → (strikeD f.id fs).length + 1 = fs.length := by
  induction fs with
  | nil => intro f _ h; cases h
  | cons q fs ih =>
    intro f hp hf
    obtain ⟨h1, h2⟩ := List.pairwise_cons.1 hp
    unfold strikeD at ih ⊢
    rw [List.filter_cons]
    rcases List.mem_cons.1 hf with rfl | hf
    · rw [if_neg (by simp), List.filter_eq_self.2 fun p hp => by simpa using fun e => h1 p hp e.symm]
      rfl
    · rw [if_pos (by simpa using h1 f hf), List.length_cons, List.length_cons, ih h2 hf]
theorem Reads.del {M : DataW Unit} {fs : List FileD} (h : Reads M fs) (ht : Tidy M) {f : FileD} (hf : f ∈ fs) (hn : fs.Pairwise fun a b => a.name ≠ b.name) (hi : fs.Pairwise fun a b => a.id ≠ b.id) : Reads (M.del (keyS f.name)) (strikeD f.id fs) where
  has k hk := by
    by_cases e : k = keyS f.name
    · rw [e, has_del_same] at hk; cases hk
    · rw [has_del_other e] at hk
      obtain ⟨q, hq, e2⟩ := h.has k hk
      exact ⟨q, mem_strike.2 ⟨hq, fun c => e (by rw [e2, pair_inj (g := FileD.id) hi hq hf c])⟩, e2⟩
  at_ q hq z := by
    obtain ⟨h1, h2⟩ := mem_strike.1 hq
    rw [atKey_del_other (fun e => h2 (by rw [pair_inj (g := FileD.name) hn h1 hf (keyS_inj e)]))]
    exact h.at_ q h1 z
  size := by
    have h1 := size_del (k := keyS f.name) ht
    have h2 := strike_len hi hf
    have h3 : Maps.has M (keyS f.name) = true := has_true_of_atKey (h.at_ f hf)
    rw [h3, if_pos rfl, h.size] at h1
    omega

/-- The disk's own block, its map, its writes. -/
structure Core (w : World) (bd bm : Nat) (LA : Option Addr) (lc : Nat) (M : DataW Unit) (l : List (Nat × Nat)) (limit : Nat) : Prop where
  head : w.heap[bd]? = some (.cells #[.map (some bm), .slice LA l.length lc, .int .i64 limit] 76 (0, 0))
  own : OwnW w 0 LA l.length lc l
  map : MapAt w bm M
theorem Core.only {w w' : World} {bd bm lc limit : Nat} {LA : Option Addr} {M : DataW Unit} {l : List (Nat × Nat)} {S : Nat → Prop} (h : Core w bd bm LA lc M l limit) (ho : Only S w w') (h1 : ¬ S bd) (h2 : ¬ S bm) (h3 : ∀ g, LA = some ⟨g, 0, none⟩ → ¬ S g) : Core w' bd bm LA lc M l limit :=
  ⟨ho.keep h.head h1, h.own.only ho h3, map_only h.map ho h2⟩
theorem Core.below {w w' : World} {bd bm lc limit : Nat} {LA : Option Addr} {M : DataW Unit} {l : List (Nat × Nat)} (h : Core w bd bm LA lc M l limit) (hb : Below w.heap.size w w') : Core w' bd bm LA lc M l limit :=
  h.only (hb.only fun _ => False) (fun h => h) (fun h => h) fun _ _ h => h
theorem Core.cells {w : World} {bd bm lc limit : Nat} {LA : Option Addr} {M : DataW Unit} {l : List (Nat × Nat)} (h : Core w bd bm LA lc M l limit) :
    w.cell? ⟨bd, 0, none⟩ = some (.map (some bm)) ∧ w.cell? ⟨bd, 1, none⟩ = some (.slice LA l.length lc) ∧ w.cell? ⟨bd, 2, none⟩ = some (.int .i64 limit) ∧ ∀ j, w.frozen? ⟨bd, j, none⟩ = false :=
  ⟨Lib.cell_of_heap h.head 0, Lib.cell_of_heap h.head 1, Lib.cell_of_heap h.head 2, Lib.frozen_of_heap h.head⟩

/-- A file, as it lies. -/
structure FileAt (w : World) (f : FileD) (A : Option Addr) (cap : Nat) : Prop where
  head : w.heap[f.id]? = some (.cells #[.slice A f.xs.length cap, .int .i64 f.safe, .bool f.stays] 84 (0, 0))
  own : OwnB w 0 A f.xs.length cap f.xs
theorem FileAt.only {w w' : World} {f : FileD} {A : Option Addr} {cap : Nat} {S : Nat → Prop} (h : FileAt w f A cap) (ho : Only S w w') (h1 : ¬ S f.id) (h2 : ∀ g, A = some ⟨g, 0, none⟩ → ¬ S g) : FileAt w' f A cap :=
  ⟨ho.keep h.head h1, h.own.only ho h2⟩
theorem FileAt.cells {w : World} {f : FileD} {A : Option Addr} {cap : Nat} (h : FileAt w f A cap) :
    w.cell? ⟨f.id, 0, none⟩ = some (.slice A f.xs.length cap) ∧ w.cell? ⟨f.id, 1, none⟩ = some (.int .i64 f.safe) ∧ w.cell? ⟨f.id, 2, none⟩ = some (.bool f.stays) ∧ ∀ j, w.frozen? ⟨f.id, j, none⟩ = false :=
  ⟨Lib.cell_of_heap h.head 0, Lib.cell_of_heap h.head 1, Lib.cell_of_heap h.head 2, Lib.frozen_of_heap h.head⟩
theorem FileAt.alive {w : World} {f : FileD} {A : Option Addr} {cap : Nat} (h : FileAt w f A cap) : Alive w f.id := ⟨_, h.head⟩
end Go.Proofs.Ytideokbaenkijaa
