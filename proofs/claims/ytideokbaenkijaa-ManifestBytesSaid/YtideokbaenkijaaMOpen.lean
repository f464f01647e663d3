/-
  Arguments of a law: states, numbers, bytes that came in.
-/
import Derived.Test.YtideokbaenkijaaMAl
import Derived.Deep.Slices
import Derived.ChangeArms
import Derived.OpenShut
namespace Go.RowKit
open Go.Deep
variable {H : Type} {encf : TypeId × Value → H} {P : Program} {w : World} {α : Type}

theorem list_of {n : Nat} {p : Nat → α → Prop} (h : ∀ i, i < n → ∃ x, p i x) : ∃ l : List α, l.length = n ∧ ∀ i x, l[i]? = some x → p i x := by
  induction n with
  | zero => exact ⟨[], rfl, fun i x h => by simp at h⟩
  | succ n ih =>
    obtain ⟨l, h1, h2⟩ := ih fun i hi => h i (by omega)
    obtain ⟨x, hx⟩ := h n (by omega)
    refine ⟨l ++ [x], by simp [h1], fun i y hy => ?_⟩
    rcases Nat.lt_or_ge i n with hi | hi
    · rw [List.getElem?_append_left (by omega)] at hy; exact h2 i y hy
    · rw [List.getElem?_append_right (by omega)] at hy
      have hlt := (List.getElem?_eq_some_iff.1 hy).1
      simp only [List.length_cons, List.length_nil] at hlt
      obtain rfl : i = n := by omega
      rw [h1, Nat.sub_self] at hy
      injection hy with hy
      subst hy
      exact hx
theorem weightsAll_mem {e : TypeId} {d : DataW H} : ∀ {l : List (DataW H)}, d ∈ l → ∀ n ∈ d.weights P e, n ∈ DataW.weightsAll P e l
  | [], h => by cases h
  | x :: r, h => by
    intro n hn
    rw [DataW.weightsAll, List.mem_append]
    rcases List.mem_cons.1 h with rfl | h
    · exact .inl hn
    · exact .inr (weightsAll_mem h n hn)

/-- What an argument takes is within the reach. -/
def Within (P : Program) (t : TypeId) (d : DataW H) : Prop := ∀ n ∈ d.weights P t, n ≤ reachBytes
theorem within_of_all {ts : List TypeId} : ∀ {ds : List (DataW H)}, (DataW.weightsEach P ts ds).all (· ≤ reachBytes) = true → ∀ (j : Nat) t d, ts[j]? = some t → ds[j]? = some d → Within P t d := by
  induction ts with
  | nil => intro ds _ j t d h; simp at h
  | cons t0 ts ih =>
    intro ds h j t d ht hd
    cases ds with
    | nil => simp at hd
    | cons d0 ds =>
      rw [DataW.weightsEach, List.all_append, Bool.and_eq_true] at h
      cases j with
      | zero =>
        injection ht with ht; injection hd with hd
        subst ht; subst hd
        intro n hn
        simpa using List.all_eq_true.1 h.1 n hn
      | succ j => exact ih h.2 j t d ht hd
theorem within_fields {t : TypeId} {fs : Array Field} {parts : List (DataW H)} (ht : P.underlying t = some (.struct fs)) (h : Within P t (.agg parts)) : ∀ (j : Nat) f d, fs[j]? = some f → parts[j]? = some d → Within P f.type d := by
  unfold Within at h
  rw [DataW.weights, ht] at h
  simp only at h
  intro j f d hf hd
  refine within_of_all (ts := fs.toList.map (·.type)) (List.all_eq_true.2 fun n hn => by simpa using h n hn) j f.type d ?_ hd
  rw [List.getElem?_map, Array.getElem?_toList, hf]
  rfl

/-- A slice that came in. -/
theorem open_rows [Inhabited α] {enc : α → List Value} {good : α → Prop} {t e : TypeId} {sz fuel : Nat} {cs : List Value} {x : DataW H × List MemPlace} (ht : P.underlying t = some (.slice e)) (hc : P.cellsOf e = sz) (hpos : 0 < sz) (hsz : ∀ x, (enc x).length = sz)
    (elem : ∀ (fuel : Nat) (cs : List Value) (x : DataW H × List MemPlace), DataW.trod encf P w 0 (fun _ => true) true fuel e cs = some x → Within P e x.1 → ∃ c, cs = enc c ∧ good c)
    (h : DataW.trod encf P w 0 (fun _ => true) true fuel t cs = some x) (hz : Within P t x.1) :
    ∃ (A : Option Addr) (n cap : Nat) (xs : List α), cs = [.slice A n cap] ∧ Rd sz enc w A n xs ∧ (∀ c ∈ xs, good c) ∧ (A = none → cap = 0) ∧ n ≤ cap ∧ cap * P.bytesOf e ≤ reachBytes := by
  rcases open_slice ht h with ⟨rfl, rfl⟩ | ⟨a, len, cap, m, n, D, Pl, rfl, hb, hl, hm, hmm, rfl, hi⟩
  · exact ⟨none, 0, 0, [], rfl, Rd.nil _ _ _ _, fun c hc => (by cases hc), fun _ => rfl, Nat.le_refl _, by simp⟩
  · simp only [if_true] at hmm
    subst hmm
    have hw : ∀ k ∈ ((List.range len).length + ((List.range (m - len)).map fun j => D (len + j)).length) * P.bytesOf e :: (DataW.weightsAll P e ((List.range len).map D) ++ DataW.weightsAll P e ((List.range (m - len)).map fun j => D (len + j))), k ≤ reachBytes := by
      have := hz
      unfold Within at this
      rw [DataW.weights, ht] at this
      simpa using this
    obtain ⟨xs, hxl, hxs⟩ := list_of (n := len) (p := fun i c => ∃ cs', w.cells? 0 (a.add (i * sz)) sz = some cs' ∧ cs' = enc c ∧ good c) fun i hil => by
      obtain ⟨cs', h1, h2⟩ := hi i (by omega)
      obtain ⟨c, h3, h4⟩ := elem _ _ _ h2 (fun k hk => hw k (by
        simp only [List.mem_cons, List.mem_append]
        exact .inr (.inl (weightsAll_mem (List.mem_map.2 ⟨i, List.mem_range.2 hil, rfl⟩) k hk))))
      exact ⟨c, cs', by rw [← hc]; exact h1, h3, h4⟩
    refine ⟨some a, len, m, xs, rfl, ⟨hxl.symm, fun i c hci => ?_⟩, fun c hcm => ?_, fun h => (by cases h), hl, ?_⟩
    · have hlt := (List.getElem?_eq_some_iff.1 hci).1
      have hspot : a.spot = none ∧ a.block < w.heap.size := by
        obtain ⟨cs', h1, h2, _⟩ := hxs 0 _ (List.getElem?_eq_getElem (by omega : 0 < xs.length))
        obtain ⟨_, h4, h5⟩ := World.cells?_some h1
        have h6 := h5 0 hpos
        have e0 : (a.add (0 * sz)).add 0 = a := by simp [Addr.add]
        rw [e0, List.getElem?_eq_getElem (by omega)] at h6
        unfold World.cell? at h6
        split at h6
        · rename_i c0 t0 f0 hblk
          refine ⟨?_, ?_⟩
          · cases hs : a.spot with
            | none => rfl
            | some z => rw [hs] at h6; simp at h6
          · rcases Nat.lt_or_ge a.block w.heap.size with hh | hh
            · exact hh
            · rw [Array.getElem?_eq_none hh] at hblk; cases hblk
        · cases h6
      obtain ⟨b, off, spot⟩ := a
      simp only at hspot
      obtain ⟨rfl, hbl⟩ := hspot
      obtain ⟨cs', h1, rfl, _⟩ := hxs i c hci
      obtain ⟨_, h4, h5⟩ := World.cells?_some h1
      refine ⟨b, off, rfl, hbl, fun j v hv => ?_⟩
      have hj : j < sz := by have := (List.getElem?_eq_some_iff.1 hv).1; rw [hsz] at this; exact this
      have := h5 j hj
      rw [hv, Go.Deep.add_add] at this
      rw [← this]
      unfold Addr.add
      split
      · rename_i h0; rw [show off + i * sz + j = off by omega]
      · simp only; rw [Nat.add_assoc]
    · obtain ⟨i, hi⟩ := List.getElem?_of_mem hcm
      obtain ⟨_, _, _, hg⟩ := hxs i c hi
      exact hg
    · have := hw _ (by simp only [List.mem_cons]; exact .inl rfl)
      simp only [List.length_range, List.length_map] at this
      rwa [show len + (m - len) = m by omega] at this
end Go.RowKit
namespace Go.Proofs.Ytideokbaenkijaa
open Go.RowKit Go.WideShapes
section
variable {H : Type} {encf : TypeId × Value → H} {w : World}

theorem int_of_wf {n : Int} (h : (Lit.int .i64 n).wf = true) : -9223372036854775808 ≤ n ∧ n < 9223372036854775808 := by
  have := bounds_i64 h
  omega
theorem cellsState : Try.prog.cellsOf 24 = 4 := by kernel_rfl
theorem cellsOfInt : Try.prog.cellsOf 3 = 1 := by kernel_rfl
theorem cellsByte : Try.prog.cellsOf 5 = 1 := by kernel_rfl
theorem cellsInts : Try.prog.cellsOf 22 = 1 := by kernel_rfl
theorem bytesInt : Try.prog.bytesOf 3 = 8 := by kernel_rfl
theorem bytesByte : Try.prog.bytesOf 5 = 1 := by kernel_rfl
def intIn (n : Int) : Prop := -9223372036854775808 ≤ n ∧ n < 9223372036854775808
theorem open_byte (fuel : Nat) (cs : List Value) (x : DataW H × List MemPlace) (h : DataW.trod encf Try.prog w 0 (fun _ => true) true fuel 5 cs = some x) (_ : Within Try.prog 5 x.1) : ∃ c : Int, cs = encB c ∧ (0 ≤ c ∧ c < 256) := by
  obtain ⟨n, e, z, b⟩ := DataW.trod_int Try.underlying5 h
  refine ⟨n, e, ?_⟩
  have := bounds_u8 b
  omega
theorem open_one (fuel : Nat) (cs : List Value) (x : DataW H × List MemPlace) (h : DataW.trod encf Try.prog w 0 (fun _ => true) true fuel 3 cs = some x) (_ : Within Try.prog 3 x.1) : ∃ c : Int, cs = encN c ∧ intIn c := by
  obtain ⟨n, e, z, b⟩ := DataW.trod_int Try.underlying3 h
  exact ⟨n, e, int_of_wf b⟩
theorem open_ints (fuel : Nat) (cs : List Value) (x : DataW H × List MemPlace) (h : DataW.trod encf Try.prog w 0 (fun _ => true) true fuel 22 cs = some x) (hz : Within Try.prog 22 x.1) :
    ∃ (A : Option Addr) (n cap : Nat) (xs : List Int), cs = [.slice A n cap] ∧ RdN w A n xs ∧ (∀ c ∈ xs, intIn c) ∧ (A = none → cap = 0) ∧ n ≤ cap ∧ cap ≤ 17592186044160 := by
  obtain ⟨A, n, cap, xs, h1, h2, h3, h4, h5, h6⟩ := open_rows Try.underlying22 cellsOfInt (by omega) encN_len open_one h hz
  rw [bytesInt] at h6
  unfold reachBytes at h6
  exact ⟨A, n, cap, xs, h1, h2, h3, h4, h5, by omega⟩
/-- A state that came in. -/
structure StateIn (w : World) (s : StateD) (A : Option Addr) (k c : Nat) : Prop where
  rd : RdN w A k s.tabs
  nil : A = none → c = 0
  room : k ≤ c
  top : c ≤ 17592186044160
  gen : intIn s.gen
  app : intIn s.app
  next : intIn s.next
  tabs : ∀ t ∈ s.tabs, intIn t
set_option maxRecDepth 20000 in
theorem open_state (fuel : Nat) (cs : List Value) (x : DataW H × List MemPlace) (h : DataW.trod encf Try.prog w 0 (fun _ => true) true fuel 24 cs = some x) (hz : Within Try.prog 24 x.1) : ∃ (s : StateD) (A : Option Addr) (k c : Nat), cs = [.int .i64 s.gen, .int .i64 s.app, .int .i64 s.next, .slice A k c] ∧ StateIn w s A k c := by
  obtain ⟨xs, n, _, rfl, hl, hxl, hf⟩ := DataW.trod_struct Try.underlying24 h
  have hw := within_fields Try.underlying24 hz
  rw [cellsState] at hl
  match cs, hl with
  | [c0, c1, c2, c3], _ =>
    match xs, hxl with
    | [y0, y1, y2, y3], _ =>
      have h0 := hf 0 _ rfl
      have h1 := hf 1 _ rfl
      have h2 := hf 2 _ rfl
      have h3 := hf 3 _ rfl
      have w3 := hw 3 _ _ rfl rfl
      obtain ⟨n0, e0, z0, b0⟩ := DataW.trod_int Try.underlying3 h0
      obtain ⟨n1, e1, z1, b1⟩ := DataW.trod_int Try.underlying3 h1
      obtain ⟨n2, e2, z2, b2⟩ := DataW.trod_int Try.underlying3 h2
      obtain ⟨A, m, cap, ys, e3, hr, hb, hn, hm, hc⟩ := open_ints _ _ _ h3 w3
      subst z0 z1 z2
      simp [cellsOfInt, cellsInts] at e0 e1 e2 e3
      subst e0 e1 e2 e3
      exact ⟨⟨n0, n1, n2, ys⟩, A, m, cap, rfl, ⟨hr, hn, hm, hc, int_of_wf b0, int_of_wf b1, int_of_wf b2, hb⟩⟩
set_option maxRecDepth 20000 in
theorem arg_state {v : Value} {d : DataW H} {p : List MemPlace} {r : Reach} {b : Nat} (h : DataW.Trod encf Try.prog w 0 (fun _ => true) true 24 v d p) (hz : Within Try.prog 24 d) (hv : Value.okWide Try.prog w r b 24 v) : ∃ (s : StateD) (A : Option Addr) (k c : Nat), v = s.v A k c ∧ StateIn w s A k c := by
  obtain ⟨cs, rfl, _⟩ := okWide_struct Try.underlying24 hv
  obtain ⟨fuel, hf⟩ := h
  obtain ⟨s, A, k, c, e, hc⟩ := open_state fuel _ _ hf hz
  refine ⟨s, A, k, c, ?_, hc⟩
  have e2 : cs = #[.int .i64 s.gen, .int .i64 s.app, .int .i64 s.next, .slice A k c] := by
    have : (Value.agg cs).cells.toList = cs.toList := rfl
    rw [this] at e
    exact Array.toList_inj.1 e
  rw [e2]
set_option maxRecDepth 20000 in
theorem arg_bytes {a : Option Addr} {len cap : Nat} {d : DataW H} {p : List MemPlace} (h : DataW.Trod encf Try.prog w 0 (fun _ => true) true 25 (.slice a len cap) d p) (hz : Within Try.prog 25 d) : ∃ xs : List Int, RdB w a len xs ∧ Bytes xs ∧ (a = none → cap = 0) ∧ len ≤ cap ∧ cap ≤ 140737488355328 := by
  obtain ⟨fuel, hf⟩ := h
  obtain ⟨A, n, c, xs, e, h1, h2, h3, h4, h5⟩ := open_rows Try.underlying25 cellsByte (by omega) encB_len open_byte hf hz
  simp [Value.cells] at e
  obtain ⟨rfl, rfl, rfl⟩ := e
  rw [bytesByte] at h5
  unfold reachBytes at h5
  exact ⟨xs, h1, h2, h3, h4, by omega⟩
end
end Go.Proofs.Ytideokbaenkijaa
