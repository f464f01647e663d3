/-
  (*Disk).Loose, Size, Room, Names.
-/
import Derived.Test.YtideokbaenkijaaSRead
namespace Go.Proofs.Ytideokbaenkijaa
open Go.RowKit Go.Maps

theorem loose_take {l : List (Nat × Nat)} {k : Nat} {p : Nat × Nat} (h : l[k]? = some p) : looseL (l.take (k + 1)) = looseL (l.take k) + p.2 := by
  rw [take_get h, loose_app]
  simp [looseL]
theorem loose_take_le (l : List (Nat × Nat)) (k : Nat) : looseL (l.take k) ≤ looseL l := by
  conv => rhs; rw [← List.take_append_drop k l, loose_app]
  omega
theorem sum_zero {α : Type} : ∀ l : List α, (l.map fun _ => 0).sum = 0
  | [] => rfl
  | _ :: l => by rw [List.map_cons, List.sum_cons, sum_zero l]
theorem size_one : ∀ {fs : List FileD}, fs.Pairwise (fun a b => a.id ≠ b.id) → ∀ {f : FileD}, f ∈ fs → ∀ n : Nat, (fs.map fun q => if f.id = q.id then n else 0).sum = n
  | [], _, f, h, _ => by cases h
  | q :: fs, hp, f, hf, n => by
    obtain ⟨h1, h2⟩ := List.pairwise_cons.1 hp
    rw [List.map_cons, List.sum_cons]
    rcases List.mem_cons.1 hf with rfl | hf
    · rw [if_pos rfl]
      have : fs.map (fun q => if f.id = q.id then n else 0) = fs.map fun _ => 0 := List.map_congr_left fun q hq => if_neg (h1 q hq)
      rw [this, sum_zero, Nat.add_zero]
    · rw [if_neg (fun c => h1 f hf c.symm), size_one h2 hf, Nat.zero_add]
theorem sum_add {α : Type} (a b : α → Nat) : ∀ l : List α, (l.map fun x => a x + b x).sum = (l.map a).sum + (l.map b).sum
  | [] => rfl
  | x :: l => by
    simp only [List.map_cons, List.sum_cons]
    rw [sum_add a b l]
    omega
theorem loose_sum {fs : List FileD} (hi : fs.Pairwise fun a b => a.id ≠ b.id) : ∀ l : List (Nat × Nat), (∀ p ∈ l, ∃ f ∈ fs, f.id = p.1) → looseL l = (fs.map fun f => looseOf f.id l).sum
  | [], _ => by
    have : fs.map (fun f => looseOf f.id []) = fs.map fun _ => 0 := List.map_congr_left fun q _ => rfl
    rw [this, sum_zero]
    rfl
  | p :: l, h => by
    obtain ⟨f, hf, e⟩ := h p (by simp)
    have ih := loose_sum hi l fun q hq => h q (by simp [hq])
    have h2 : (fs.map fun q => looseOf q.id (p :: l)) = fs.map fun q => (if f.id = q.id then p.2 else 0) + looseOf q.id l := List.map_congr_left fun q _ => by rw [looseOf_cons, e]
    rw [h2, sum_add, size_one hi hf, ← ih]
    simp [looseL]
theorem sum_le_of {α : Type} {a b : α → Nat} : ∀ {l : List α}, (∀ x ∈ l, a x ≤ b x) → (l.map a).sum ≤ (l.map b).sum
  | [], _ => Nat.le_refl _
  | x :: l, h => by
    simp only [List.map_cons, List.sum_cons]
    have := h x (by simp)
    have := sum_le_of fun y hy => h y (List.mem_cons_of_mem x hy)
    omega
/-- What doesn't last is part of what there is. -/
theorem DiskD.Ok.loose_le {D : DiskD} (h : D.Ok) : looseL D.loose ≤ sizeL D.files := by
  rw [loose_sum h.ids D.loose h.known]
  exact sum_le_of fun f hf => by have := h.sums f hf; omega

set_option maxHeartbeats 1000000 in
theorem loose_calls (S : Nat → Prop) (bd : Nat) (D : DiskD) (w : World) (h : DiskAt S w bd D) (hok : D.Ok) (hl : D.loose.length ≤ 1000000) :
    Calls Try.prog 25 #[.pointer (some ⟨bd, 0, none⟩)] w fun e w' => e = .returned (.int .i64 (looseL D.loose)) ∧ Below w.heap.size w w' := by
  obtain ⟨bm, LA, lc, hh, M, k1, k2, k3, k4, k5⟩ := h
  obtain ⟨c0, c1, c2, fz⟩ := k1.cells
  have hb : looseL D.loose ≤ 16777216 := Nat.le_trans hok.loose_le (Nat.le_trans hok.fits hok.small)
  have HR := Lib.hid (k1.own.rd encW_len)
  have HL := Lib.hid hb
  generalize D.loose = l at *
  clear k1 k2 k3 k4 k5 hb hok
  go_enter Try.func25, Try.ntmps25
  go_wp2_with fail
  go_loopw [3, 11] (fun s i wr => ∃ k : Nat, k ≤ l.length ∧ i = .int .i64 k ∧ s = .int .i64 (looseL (l.take k)) ∧ Hid (Below w.heap.size w wr)) (fun _ i _ => l.length - (intOf i).toNat)
  case atStart => exact ⟨0, Nat.zero_le _, rfl, rfl, Below.refl _ _⟩
  case round =>
    obtain ⟨k, hk, rfl, rfl, HB⟩ := hrel
    by_cases hlt : k < l.length
    · obtain ⟨p, b, off, hp, rfl, _, e0, e1⟩ := rdw (HR.out.below HB.out) k hlt
      have hp3 := loose_take hp
      have hp4 := loose_take_le l (k + 1)
      have hp5 := HL.out
      have hz := HB.out.size
      obtain ⟨hbx, _⟩ := one_box wr #[.pointer (some ⟨p.1, 0, none⟩), .int .i64 p.2] 86
      have HB2 := Lib.hid (HB.out.trans (hbx.mono hz))
      have HP3 := Lib.hid hp3
      have f1 : (looseL (l.take k) : Int) + p.2 ≤ 16777216 := by omega
      clear hp hbx hp3 hp4 hp5
      go_wp2
      go_roundw
      case rel => exact ⟨k + 1, by omega, by go_num, by rw [HP3.out]; go_num, HB2.out⟩
      case measure => simp [intOf]; omega
    · have he : l.take k = l := List.take_of_length_le (by omega)
      rw [he]
      go_wp2
      go_ret
      exact ⟨rfl, HB.out⟩

/-! ### ranging over a disk's files -/
theorem _root_.Go.RowKit.Only.none_below' {w w' : World} (h : Only (fun k => (none : Option Nat) = some k) w w') : Below w.heap.size w w' := Only.none_below (h.mono fun _ _ e => nomatch e)
theorem wpList_next_files {P : Program} {k : TypeId} (K : Keyed P k) (hks : P.underlying k = some .string) {w : World} {ops : Array Oper} {rest : List Oper} {o : Oper} {a : Act} {Q : Exit → Act → World → Prop} (hg : o.guard = none) (it : Operand) (hop : o.op = Op.next it false) (b r n : Nat) (M : DataW Unit) (fs : List FileD) (hr : Reads M fs) (left : Lit → Bool) (cnt : Nat)
    (hit : a.eval it = .pointer (some ⟨r, 0, none⟩)) (h : w.ranges P k ptrE b r n M left cnt)
    (hDone : cnt = 0 → (∀ kl, left kl = false) → wpList P ops Q rest (a.put o.dst (.tuple #[.bool false])) w)
    (hMore : ∀ (f : FileD) (w' : World) (cnt' : Nat), f ∈ fs → left (keyS f.name) = true → w'.ranges P k ptrE b r n M (fun z => left z && !z.sameKey (keyS f.name)) cnt' → cnt' < cnt →
      w.grownBy w' (some r) → w'.heap.size = w.heap.size → (Instr.entry (.pointer (some ⟨r, 0, none⟩))).run P w' = .ok (.tuple #[.string f.name, .pointer (some ⟨f.id, 0, none⟩)]) w' → wpList P ops Q rest (a.put o.dst (.tuple #[.bool true, .string f.name, .pointer (some ⟨f.id, 0, none⟩)])) w') :
    wpList P ops Q (o :: rest) a w := by
  refine wpList_plain hg fun K' hK' => ?_
  unfold Oper.wp
  rcases h.next K o.type with ⟨h0, hl, hrun⟩ | ⟨key, v, kl, y, w', cnt', hkey, hlk, hv, hat, hrun, hrg, hlt, hgr, hsz, hen⟩
  · simp [execOp, hop, hit, hrun, Result.andThen]
    exact hK' _ _ (hDone h0 hl)
  · obtain ⟨f, hf, rfl⟩ := hr.has kl (has_true_of_atKey hat)
    obtain ⟨x, hkx, hx, _⟩ := Maps.keyOf_str hks hkey
    have hy : y.1 = .lit (.int .i64 f.id) := (hat .nil).symm.trans (hr.at_ f hf .nil)
    have hvx := ptrE_lit (v := v) (b := f.id) (ps := y.2) (by rw [hv, ← hy])
    have hkf : key = .string f.name := by
      unfold keyS at hx
      injection hx with hx
      rw [hkx]
      unfold encStr
      rw [← hx]
    have hm := hMore f w' cnt' hf hlk hrg hlt hgr hsz
    rw [← hkf, ← hvx] at hm
    simp [execOp, hop, hit, hrun, Result.andThen]
    exact hK' _ _ (hm hen)
/-- The files that have come. -/
def came (left : Lit → Bool) (fs : List FileD) : List FileD := fs.filter fun f => !left (keyS f.name)
theorem came_none {fs : List FileD} {M : DataW Unit} (hr : Reads M fs) : came (Maps.has M) fs = [] :=
  List.filter_eq_nil_iff.2 fun f hf => by rw [has_true_of_atKey (hr.at_ f hf)]; simp
theorem came_all {left : Lit → Bool} (hl : ∀ kl, left kl = false) (fs : List FileD) : came left fs = fs :=
  List.filter_eq_self.2 fun f _ => by rw [hl]; rfl
theorem key_same (a b : ByteArray) : (keyS a).sameKey (keyS b) = decide (a = b) := by
  by_cases h : a = b
  · subst h
    rw [decide_eq_true rfl]
    exact WideAt.sameKey_self (keyS_key _)
  · rw [decide_eq_false h]
    exact sameKey_ne fun e => h (keyS_inj e)
theorem came_more (left : Lit → Bool) : ∀ {fs : List FileD}, fs.Pairwise (fun a b => a.name ≠ b.name) → ∀ {f : FileD}, f ∈ fs → left (keyS f.name) = true → sizeL (came (fun z => left z && !z.sameKey (keyS f.name)) fs) = sizeL (came left fs) + f.xs.length
  | [], _, f, h, _ => by cases h
  | q :: fs, hp, f, hf, hl => by
    obtain ⟨h1, h2⟩ := List.pairwise_cons.1 hp
    have ih := @came_more left fs
    unfold came at ih ⊢
    rcases List.mem_cons.1 hf with rfl | hf
    · rw [List.filter_cons_of_pos (by simp [key_same]), List.filter_cons_of_neg (by simp [hl]), size_cons]
      have : (fs.filter fun q => !(left (keyS q.name) && !(keyS q.name).sameKey (keyS f.name))) = fs.filter fun q => !left (keyS q.name) := by
        refine List.filter_congr fun q hq => ?_
        rw [key_same, decide_eq_false (fun e => h1 q hq e.symm)]
        simp
      rw [this, Nat.add_comm]
    · have hne := h1 f hf
      have := ih h2 hf hl
      by_cases hq : left (keyS q.name) = true
      · rw [List.filter_cons_of_neg (by simp [key_same, hne, hq]), List.filter_cons_of_neg (by simp [hq]), this]
      · rw [List.filter_cons_of_pos (by simp [hq]), List.filter_cons_of_pos (by simp [hq]), size_cons, size_cons, this]
        omega
theorem came_le (left : Lit → Bool) (fs : List FileD) : sizeL (came left fs) ≤ sizeL fs := size_filter _ _

set_option maxHeartbeats 2000000 in
theorem size_calls (S : Nat → Prop) (bd : Nat) (D : DiskD) (w : World) (h : DiskAt S w bd D) (hok : D.Ok) :
    Calls Try.prog 22 #[.pointer (some ⟨bd, 0, none⟩)] w fun e w' => e = .returned (.int .i64 (sizeL D.files)) ∧ Below w.heap.size w w' := by
  obtain ⟨bm, LA, lc, hh, M, k1, k2, k3, k4, k5⟩ := h
  obtain ⟨c0, c1, c2, fz⟩ := k1.cells
  have hb : sizeL D.files ≤ 16777216 := Nat.le_trans hok.fits hok.small
  have HMAP := Lib.hid k1.map
  have HF := Lib.hid k2
  have HR := Lib.hid k3
  have HS := Lib.hid hb
  have HN := Lib.hid hok.names
  generalize D.files = fs at *
  clear k1 k2 k3 k4 k5 hb hok
  go_enter Try.func22, Try.ntmps22
  go_wp2_with (first | (at_range; refine wpList_range_own _ rfl _ 73 rfl 9 82 keyedS Try.underlying73 ptrE bm _ M rfl HMAP.out ?_; intro w0 hrg0 hg0 hs0) | go_in)
  go_frame
  have HB0 := Lib.hid ((grownBy_only hg0).none_below')
  have hr0 := came_none HR.out
  have HRG0 := Lib.hid hrg0
  have hs1 := hs0
  clear hrg0 hg0
  go_loopw [3] (fun s wr => ∃ (left : Lit → Bool) (cnt : Nat), s = .int .i64 (sizeL (came left fs)) ∧ Hid (wr.ranges Try.prog 9 ptrE bm w.heap.size (Maps.size M) M left cnt) ∧ Hid (Below w.heap.size w wr)) (fun _ wr => wr.rangeLeft bm w.heap.size)
  case atStart => exact ⟨_, _, by rw [hr0]; rfl, HRG0.out, HB0.out⟩
  case round =>
    clear HRG0 HB0 hr0
    obtain ⟨left, cnt, rfl, HRG, HB⟩ := hrel
    go_wp2_with (at_next; refine wpList_next_files keyedS Try.underlying9 rfl _ rfl bm w.heap.size _ M fs HR.out left cnt rfl HRG.out ?_ ?_)
    · intro hc0 hl0
      have he := came_all hl0 fs
      rw [he]
      clear hl0 HRG
      go_wp2
      go_ret
      exact ⟨rfl, HB.out⟩
    · intro f w1 cnt1 hf hlk hrg1 hlt hg1 hs1 hen
      have hb1 := HB.out.trans ((grownBy_only hg1).below HB.out.size (fun i hi => by injection hi with hi; omega))
      have hfa := HF.out.at_ f hf
      have hd0 := below_cell hb1 (Nat.le_refl _) hfa.cells.1
      have hm := came_more left HN.out hf hlk
      have hm2 := came_le (fun z => left z && !z.sameKey (keyS f.name)) fs
      have hm3 := HS.out
      have f1 : (sizeL (came left fs) : Int) + f.xs.length ≤ 16777216 := by omega
      have HRG1 := Lib.hid hrg1
      have HB1 := Lib.hid hb1
      have HM := Lib.hid hm
      have HLT := Lib.hid hlt
      clear hf hlk hrg1 hlt hg1 hs1 hb1 hfa hm hm2 hm3
      go_wp2
      go_roundw
      case rel => exact ⟨_, _, by rw [HM.out]; go_num, HRG1.out, HB1.out⟩
      case measure =>
        rw [HRG1.out.left_eq, HRG.out.left_eq]
        exact HLT.out
end Go.Proofs.Ytideokbaenkijaa
