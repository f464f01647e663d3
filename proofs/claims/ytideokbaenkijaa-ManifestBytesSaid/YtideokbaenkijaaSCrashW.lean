/-
  (*Disk).Crash.
-/
import Derived.Test.YtideokbaenkijaaSCrash
namespace Go.Proofs.Ytideokbaenkijaa
open Go.RowKit Go.Maps

/-- Behind so many writes. -/
structure CrashAt (S : Nat → Prop) (w wr : World) (bd bm : Nat) (LA : Option Addr) (lc : Nat) (h : Nat → Option Addr × Nat) (M : DataW Unit) (D : DiskD) (keep : Int) (k : Nat) (kp : Int) : Prop where
  lies : Lies S wr bd bm LA lc h M { D with files := (crashed (D.loose.take k) (D.files, keep.toNat)).1 }
  kept : kp.toNat = (crashed (D.loose.take k) (D.files, keep.toNat)).2
  low : -9223372036854775808 ≤ kp
  high : kp ≤ keep
  only : Only S w wr
  room : ∀ f ∈ (crashed (D.loose.take k) (D.files, keep.toNat)).1, f.safe + looseOf f.id (D.loose.drop k) ≤ f.xs.length

theorem crash_step {S : Nat → Prop} {w wr W3 : World} {bd bm lc j n : Nat} {LA : Option Addr} {hh : Nat → Option Addr × Nat} {M : DataW Unit} {D : DiskD} {keep kp : Int} (hc : CrashAt S w wr bd bm LA lc hh M D keep j kp) (hok : D.Ok) {p : Nat × Nat} (hp : D.loose[j]? = some p) {f : FileD} (hf : f ∈ (crashed (D.loose.take j) (D.files, keep.toNat)).1) (hfp : f.id = p.1)
    (hn : n = min kp.toNat p.2) (ho : Only (fun k => k = p.1) wr W3) (hd : W3.heap[p.1]? = some (.cells #[.slice (hh f.id).1 f.xs.length (hh f.id).2, .int .i64 ((f.safe : Int) + n), .bool (f.stays || decide (0 < n))] 84 (0, 0))) (hlow : -9223372036854775808 ≤ kp - (n : Int)) :
    CrashAt S w W3 bd bm LA lc hh M D keep (j + 1) (kp - n) := by
  have hlat := laters_crashed (D.loose.take j) (D.files, keep.toNat)
  have hids := hlat.ids hok.ids
  have hfa := hc.lies.files.at_ f hf
  have hits : Only (Its f.id (hh f.id).1) wr W3 := ho.mono fun k _ hk => .inl (hk.trans hfp.symm)
  have hnew : FileAt W3 (keepF n f) (hh f.id).1 (hh f.id).2 := by
    refine ⟨?_, ?_⟩
    · show W3.heap[f.id]? = _
      rw [hfp]
      rw [hfp] at hd
      rw [hd]
      show some (Obj.cells #[_, .int .i64 ((f.safe : Int) + (n : Int)), _] _ _) = some (Obj.cells #[_, .int .i64 ((f.safe + n : Nat) : Int), _] _ _)
      rw [Int.natCast_add]
      rfl
    · refine hfa.own.only ho fun g hg e => ?_
      have := hfa.own
      rw [hg] at this
      exact own_ne this hfa.head (by decide) (hfp.trans e.symm)
  have hfiles := hc.lies.files.upd hids hf (keepF_keeps n).id hnew hits fun r hr => .inl hr
  have hfun : (fun k => if k = f.id then ((hh f.id).1, (hh f.id).2) else hh k) = hh := by
    funext k
    by_cases e : k = f.id
    · rw [if_pos e, e]
    · rw [if_neg e]
  rw [hfun] at hfiles
  have hnext : crashed (D.loose.take (j + 1)) (D.files, keep.toNat) = (updD f.id (keepF n) (crashed (D.loose.take j) (D.files, keep.toNat)).1, kp.toNat - n) := by
    rw [take_get hp, crashed_snoc]
    unfold crashStep
    rw [← hc.kept, ← hn, hfp]
  refine ⟨?_, ?_, hlow, by have := hc.high; omega, hc.only.trans (ho.mono fun k _ hk => ?_), fun q hq => ?_⟩
  · rw [hnext]
    refine ⟨hc.lies.core.file hfa hits, hfiles, hc.lies.reads.upd f.id (keepF_keeps n), hc.lies.mine, fun q hq => ?_⟩
    obtain ⟨r, hr, rfl⟩ := mem_updD hq
    rw [(keepF_keeps n).id']
    exact hc.lies.ours r hr
  · rw [hnext]
    show (kp - (n : Int)).toNat = kp.toNat - n
    omega
  · rw [hk, ← hfp]
    exact (hc.lies.ours f hf).1
  · rw [hnext] at hq
    obtain ⟨r, hr, rfl⟩ := mem_updD hq
    have := hc.room r hr
    rw [drop_get hp, looseOf_cons] at this
    rw [(keepF_keeps n).id']
    by_cases e : r.id = f.id
    · rw [if_pos e]
      rw [if_pos (hfp.symm.trans e.symm)] at this
      show r.safe + n + _ ≤ r.xs.length
      omega
    · rw [if_neg e]
      omega

theorem cut_lies {S : Nat → Prop} {wr W3 : World} {bd bm lc : Nat} {LA : Option Addr} {h : Nat → Option Addr × Nat} {M : DataW Unit} {D : DiskD} (k : Lies S wr bd bm LA lc h M D) (hi : D.files.Pairwise fun a b => a.id ≠ b.id) {q : FileD} (hq : q ∈ D.files) (hs : q.safe ≤ q.xs.length) (ho : Only (fun k => k = q.id) wr W3)
    (hd : W3.heap[q.id]? = some (.cells #[.slice (h q.id).1 q.safe (h q.id).2, .int .i64 q.safe, .bool q.stays] 84 (0, 0))) : Lies S W3 bd bm LA lc h M { D with files := updD q.id cutF D.files } := by
  have hfa := k.files.at_ q hq
  have hits : Only (Its q.id (h q.id).1) wr W3 := ho.mono fun k _ hk => .inl hk
  have hlen : (cutF q).xs.length = q.safe := by
    show (q.xs.take q.safe).length = _
    rw [List.length_take, Nat.min_eq_left hs]
  have hnew : FileAt W3 (cutF q) (h q.id).1 (h q.id).2 := by
    refine ⟨?_, ?_⟩
    · rw [hlen]
      exact hd
    · rw [hlen]
      refine (own_take encB_len hfa.own q.safe hs).only ho fun g hg e => ?_
      have := hfa.own
      rw [hg] at this
      exact own_ne this hfa.head (by decide) e.symm
  have hfiles := k.files.upd hi hq cutF_keeps.id hnew hits fun r hr => .inl hr
  have hfun : (fun k => if k = q.id then ((h q.id).1, (h q.id).2) else h k) = h := by
    funext k
    by_cases e : k = q.id
    · rw [if_pos e, e]
    · rw [if_neg e]
  rw [hfun] at hfiles
  refine ⟨k.core.file hfa hits, hfiles, k.reads.upd q.id cutF_keeps, k.mine, fun p hp => ?_⟩
  obtain ⟨r, hr, rfl⟩ := mem_updD hp
  rw [cutF_keeps.id']
  exact k.ours r hr
theorem strike_upd (id : Nat) {g : FileD → FileD} (hg : ∀ f, (g f).id = f.id) : ∀ fs : List FileD, strikeD id (updD id g fs) = strikeD id fs
  | [] => rfl
  | f :: fs => by
    have ih := strike_upd id hg fs
    unfold strikeD updD at ih ⊢
    rw [List.map_cons, List.filter_cons, List.filter_cons, ih]
    by_cases e : f.id = id
    · rw [if_pos e, if_neg (by rw [hg]; simp [e]), if_neg (by simp [e])]
    · rw [if_neg e]
theorem drop_lies {S : Nat → Prop} {wr W3 : World} {bd bm lc n : Nat} {LA : Option Addr} {h : Nat → Option Addr × Nat} {M : DataW Unit} {D : DiskD} (k : Lies S wr bd bm LA lc h M D) (hn : D.files.Pairwise fun a b => a.name ≠ b.name) (hi : D.files.Pairwise fun a b => a.id ≠ b.id) {q : FileD} (hq : q ∈ D.files)
    (hown : W3.ownsMap Try.prog 9 ptrE bm n (M.del (keyS q.name))) (ht : wr.mapTurned W3 bm) : Lies S W3 bd bm LA lc h (M.del (keyS q.name)) { D with files := strikeD q.id D.files } := by
  have hon := turned_only ht
  exact ⟨k.core.turn hon hown, (k.files.mine k.core (hon.mono fun k _ hk => .inr (.inl hk))).sub fun f hf => (mem_strike.1 hf).1, k.reads.del k.core.tidy hq hn hi, k.mine, fun f hf => k.ours f (mem_strike.1 hf).1⟩
theorem proc_pairs {left : Lit → Bool} {fs : List FileD} (hn : fs.Pairwise fun a b => a.name ≠ b.name) (hi : fs.Pairwise fun a b => a.id ≠ b.id) : (procF left fs).Pairwise (fun a b => a.name ≠ b.name) ∧ (procF left fs).Pairwise fun a b => a.id ≠ b.id := by
  have e1 : ∀ f : FileD, (if left (keyS f.name) = true then f else cutF f).name = f.name := fun f => by split <;> rfl
  have e2 : ∀ f : FileD, (if left (keyS f.name) = true then f else cutF f).id = f.id := fun f => by split <;> rfl
  exact ⟨List.pairwise_map.2 ((hn.filter _).imp fun {a b} h => by rw [e1, e1]; exact h), List.pairwise_map.2 ((hi.filter _).imp fun {a b} h => by rw [e2, e2]; exact h)⟩

theorem iter_ne {w : World} {b r n k : Nat} {M : DataW Unit} {left : Lit → Bool} {cnt : Nat} (h : w.ranges Try.prog 9 ptrE b r n M left cnt) {cs : Array Value} {T : TypeId} {f : Nat × Nat} (hk : w.heap[k]? = some (.cells cs T f)) : k ≠ r := by
  rintro rfl
  obtain ⟨es, clock, since, seen, c0, _, _, _, _, hr, _⟩ := h
  rw [hr] at hk
  cases hk
theorem iter_ne_own {α : Type} {E : TypeId} {sz : Nat} {enc : α → List Value} {w : World} {b r n g base m cap : Nat} {M : DataW Unit} {left : Lit → Bool} {cnt : Nat} {xs : List α} (h : w.ranges Try.prog 9 ptrE b r n M left cnt) (ho : Own E sz enc w base (some ⟨g, 0, none⟩) m cap xs) : g ≠ r := by
  obtain ⟨_, _, h2 | ⟨g', c, cur, h3, _, h5, _⟩⟩ := ho
  · obtain ⟨h2, _⟩ := h2
    injection h2 with h2
    cases h2
  · injection h3 with h3
    injection h3 with h3
    injection h3 with h3
    subst h3
    exact iter_ne h h5
theorem lies_iter {S : Nat → Prop} {w w1 : World} {bd bm lc r n : Nat} {LA : Option Addr} {h : Nat → Option Addr × Nat} {M : DataW Unit} {D : DiskD} {left : Lit → Bool} {cnt : Nat} (k : Lies S w bd bm LA lc h M D) (hr : w.ranges Try.prog 9 ptrE bm r n M left cnt) (ho : Only (fun k => k = r) w w1) : Lies S w1 bd bm LA lc h M D :=
  ⟨k.core.only ho (iter_ne hr k.core.head) (fun e => hr.ne e.symm) (fun g e => iter_ne_own hr (by rw [← e]; exact k.core.own)),
   k.files.only ho (fun f hf => iter_ne hr (k.files.at_ f hf).head) (fun f hf g e => iter_ne_own hr (by rw [← e]; exact (k.files.at_ f hf).own)), k.reads, k.mine, k.ours⟩

set_option maxHeartbeats 2000000 in
set_option maxRecDepth 20000 in
theorem crash_calls (S : Nat → Prop) (bd : Nat) (D : DiskD) (keep : Int) (w : World) (h : DiskAt S w bd D) (hok : D.Ok) (hl : D.loose.length ≤ 1000000) (hk0 : -9223372036854775808 ≤ keep) (hk1 : keep < 9223372036854775808) :
    Calls Try.prog 27 #[.pointer (some ⟨bd, 0, none⟩), .int .i64 keep] w fun e w' => e = .returned (.tuple #[]) ∧ DiskAt (Plus S w.heap.size) w' bd (D.crash keep.toNat) ∧ Only S w w' := by
  obtain ⟨bm, LA, lc, hh, M, k⟩ := h
  obtain ⟨c0, c1, c2, fz⟩ := k.core.cells
  have HK := Lib.hid k
  have HOK := Lib.hid hok
  clear k hok
  go_enter Try.func27, Try.ntmps27
  go_wp2_with fail
  go_loopw [1, 14] (fun kv i wr => ∃ (j : Nat) (kp : Int), j ≤ D.loose.length ∧ kv = .int .i64 kp ∧ i = .int .i64 j ∧ Hid (CrashAt S w wr bd bm LA lc hh M D keep j kp)) (fun _ i _ => D.loose.length - (intOf i).toNat)
  case atStart => exact ⟨0, keep, Nat.zero_le _, rfl, rfl, ⟨HK.out, rfl, hk0, Int.le_refl _, Only.refl _ _, fun f hf => Nat.le_of_eq (HOK.out.sums f hf)⟩⟩
  case round =>
    obtain ⟨j, kp, hj, rfl, rfl, HC⟩ := hrel
    by_cases hlt : j < D.loose.length
    · obtain ⟨p, bb, off, hp, rfl, _, e0, e1⟩ := rdw (HC.out.lies.core.own.rd encW_len) j hlt
      obtain ⟨hbx, cv⟩ := one_box wr #[.pointer (some ⟨p.1, 0, none⟩), .int .i64 p.2] 86
      have hbig : sizeL (crashed (D.loose.take j) (D.files, keep.toNat)).1 ≤ 16777216 := by
        rw [(laters_crashed _ _).size]
        exact Nat.le_trans HOK.out.fits HOK.out.small
      obtain ⟨f, hf, hfp⟩ : ∃ f ∈ (crashed (D.loose.take j) (D.files, keep.toNat)).1, f.id = p.1 := by
        obtain ⟨f, hf, e⟩ := HOK.out.known p (List.mem_of_getElem? hp)
        obtain ⟨g, hg, hl⟩ := (laters_crashed (D.loose.take j) (D.files, keep.toNat)).mem' hf
        exact ⟨g, hg, hl.id.trans e⟩
      have hroom := HC.out.room f hf
      rw [drop_get hp, looseOf_cons, if_pos hfp.symm] at hroom
      have hfl := Nat.le_trans (size_mem hf) hbig
      obtain ⟨n, hn⟩ : ∃ n, n = min kp.toNat p.2 := ⟨_, rfl⟩
      have hmn : min (max kp 0) (p.2 : Int) = (n : Int) := by omega
      have hnp : n ≤ p.2 := by omega
      have hlow := HC.out.low
      have hkn : kp - (n : Int) ≤ kp ∧ -9223372036854775808 ≤ kp - (n : Int) := by omega
      have hkh := HC.out.high
      have f1 : (f.safe : Int) + n ≤ 16777216 := by omega
      have hfa := HC.out.lies.files.at_ f hf
      obtain ⟨d0, d1, d2, gz⟩ := hfa.cells
      rw [hfp] at d0 d1 d2 gz
      have hlt1 : p.1 < wr.heap.size := lt_of_cell d1
      have d1' := below_cell hbx (Nat.le_refl _) d1
      have d2' := below_cell hbx (Nat.le_refl _) d2
      have gz' : ∀ i, (wr.alloc (.cells #[.pointer (some ⟨p.1, 0, none⟩), .int .i64 p.2] 86)).frozen? ⟨p.1, i, none⟩ = false := fun i => (hbx.frozen (p := ⟨p.1, i, none⟩) hlt1).trans (gz i)
      have HP := Lib.hid hp
      have HF := Lib.hid hf
      have HFP := Lib.hid hfp
      have HN := Lib.hid hn
      have HKN := Lib.hid hkn
      have HW64 := Lib.hid (show wrap64 (kp - (n : Int)) = kp - n by unfold wrap64; omega)
      have HRO := Lib.hid hroom
      have HFA := Lib.hid hfa
      clear hp hf hfp hn hroom hfl hfa hbig hnp hlow hkh cv hbx
      go_wp2_with fail
      obtain ⟨X, hX⟩ : ∃ X, X = wr.setCell ⟨p.1, 1, none⟩ (.int .i64 ((f.safe : Int) + n)) := ⟨_, rfl⟩
      rw [← hX]
      have hXo : Only (fun k => k = p.1) wr X := by rw [hX]; exact only_setCell wr ⟨p.1, 1, none⟩ _
      have hXs : X.heap.size = wr.heap.size := by rw [hX]; simp [World.setCell]
      have hXh : X.heap[p.1]? = some (.cells #[.slice (hh f.id).1 f.xs.length (hh f.id).2, .int .i64 ((f.safe : Int) + n), .bool f.stays] 84 (0, 0)) := by
        rw [hX, ← HFP.out]
        exact heap_setCell_same wr f.id 1 _ _ _ HFA.out.head
      obtain ⟨hbx, cv⟩ := one_box X #[.pointer (some ⟨p.1, 0, none⟩), .int .i64 p.2] 86
      have b0 := cv 0 _ rfl
      rw [hXs] at b0
      have hX2 := (hbx.only fun _ => False).keep hXh (fun h => h)
      have a2 := Lib.cell_of_heap hX2 2
      have ga := Lib.frozen_of_heap hX2 2
      have HX := Lib.hid hX
      have HXO := Lib.hid hXo
      have HX2 := Lib.hid hX2
      have HXS := Lib.hid hXs
      have HBX := Lib.hid hbx
      clear hX hXo hXs hXh hX2 d0 d1 d2 gz d1' d2' gz' c0 c1 c2 fz cv hbx
      generalize X.alloc (.cells #[.pointer (some ⟨p.1, 0, none⟩), .int .i64 p.2] 86) = W2 at *
      have a2' : W2.cell? ⟨p.1, 2, none⟩ = some (.bool f.stays) := a2
      clear a2
      have hhead : Hid (∀ v, ((W2.setCell ⟨p.1, 2, none⟩ v).drew).heap[p.1]? = some (.cells #[.slice (hh f.id).1 f.xs.length (hh f.id).2, .int .i64 ((f.safe : Int) + n), v] 84 (0, 0))) := fun v =>
        heap_setCell_same W2 p.1 2 _ _ v HX2.out
      have hon3 : Hid (∀ v, Only (fun k => k = p.1) wr (W2.setCell ⟨p.1, 2, none⟩ v).drew) := fun v => by
        have h1 : Only (fun k => k = p.1) X W2 := HBX.out.only _
        have h2 : Only (fun k => k = p.1) W2 (W2.setCell ⟨p.1, 2, none⟩ v) := only_setCell W2 ⟨p.1, 2, none⟩ v
        exact ((HXO.out.trans h1).trans h2).trans ((below_drew1 _).only _)
      cases hst : f.stays with
      | true =>
        rw [hst] at a2'
        have HST := Lib.hid hst
        clear hst
        go_region
        go_wp2
        go_roundw
        case rel =>
          have hkn := HKN.out
          refine ⟨j + 1, kp - n, by omega, by rw [HW64.out], by go_num, crash_step HC.out HOK.out HP.out HF.out HFP.out HN.out (hon3.out _) ?_ hkn.2⟩
          rw [HST.out]
          exact hhead.out _
        case measure => simp [intOf]; omega
      | false =>
        rw [hst] at a2'
        have HST := Lib.hid hst
        clear hst
        by_cases hn0 : (0 : Int) < (n : Int)
        · have HN0 := Lib.hid hn0
          go_region
          go_wp2
          go_roundw
          case rel =>
            have hkn := HKN.out
            refine ⟨j + 1, kp - n, by omega, by rw [HW64.out], by go_num, crash_step HC.out HOK.out HP.out HF.out HFP.out HN.out (hon3.out _) ?_ hkn.2⟩
            rw [HST.out, decide_eq_true (p := 0 < n) (by have := HN0.out; omega)]
            exact hhead.out _
          case measure => simp [intOf]; omega
        · have HN0 := Lib.hid hn0
          go_region
          go_wp2
          go_roundw
          case rel =>
            have hkn := HKN.out
            refine ⟨j + 1, kp - n, by omega, by rw [HW64.out], by go_num, crash_step HC.out HOK.out HP.out HF.out HFP.out HN.out (hon3.out _) ?_ hkn.2⟩
            rw [HST.out, decide_eq_false (p := 0 < n) (by have := HN0.out; omega)]
            exact hhead.out _
          case measure => simp [intOf]; omega
    · obtain rfl : j = D.loose.length := by omega
      have hlat := laters_crashed D.loose (D.files, keep.toNat)
      have hlies := HC.out.lies
      have hroom := HC.out.room
      have honly := HC.out.only
      rw [List.take_length] at hlies hroom
      obtain ⟨F, hF⟩ : ∃ F, F = (crashed D.loose (D.files, keep.toNat)).1 := ⟨_, rfl⟩
      have hcr : D.crash keep.toNat = { files := (F.filter fun f => f.stays).map cutF, loose := [], limit := D.limit } := by rw [hF]; rfl
      rw [← hF] at hlies hroom hlat
      have hnm := hlat.names HOK.out.names
      have hid := hlat.ids HOK.out.ids
      have hsz : ∀ f ∈ F, f.xs.length ≤ 16777216 := fun f hf => Nat.le_trans (size_mem hf) (by rw [hlat.size]; exact Nat.le_trans HOK.out.fits HOK.out.small)
      have hsafe : ∀ f ∈ F, f.safe ≤ f.xs.length := fun f hf => by have := hroom f hf; omega
      obtain ⟨b0, b1, b2, bz⟩ := hlies.core.cells
      -- the writes are forgotten
      have hset := only_setCell wr ⟨bd, 1, none⟩ (.slice none 0 0)
      have hcore2 : Core (wr.setCell ⟨bd, 1, none⟩ (.slice none 0 0)) bd bm none 0 M [] D.limit :=
        ⟨heap_setCell_same _ bd 1 _ _ _ hlies.core.head, Own.nil _ _ _ _ _, map_only hlies.core.map hset (map_ne hlies.core.map hlies.core.head).symm⟩
      have hlies2 : Lies S (wr.setCell ⟨bd, 1, none⟩ (.slice none 0 0)) bd bm none 0 hh M { files := F, loose := [], limit := D.limit } :=
        ⟨hcore2, hlies.files.mine hlies.core (hset.mono fun k _ hk => .inl hk), hlies.reads, (fun k hk => by
          rcases hk with hk | hk | hk
          · exact hlies.mine k (.inl hk)
          · exact hlies.mine k (.inr (.inl hk))
          · cases hk), hlies.ours⟩
      have honly2 : Only S w (wr.setCell ⟨bd, 1, none⟩ (.slice none 0 0)) := honly.trans (hset.mono fun k _ hk => by rw [hk]; exact hlies.mine _ (.inl rfl))
      have c02 := hcore2.cells.1
      have HL2 := Lib.hid hlies2
      have HO2 := Lib.hid honly2
      have HNM := Lib.hid hnm
      have HID := Lib.hid hid
      have HSZ := Lib.hid hsz
      have HNS : Hid (∀ f ∈ F, f.name.size ≤ maxLen) := fun f hf => by
        obtain ⟨q, hq, e⟩ := hlat.mem hf
        have := (HOK.out.right q hq).2
        rw [e.name]
        unfold maxLen
        omega
      have HSF := Lib.hid hsafe
      have HCR := Lib.hid hcr
      clear hlat hlies hroom honly hF hcr hnm hid hsz hsafe hset hcore2 hlies2 honly2 HC c0 c1 c2 fz
      go_wp2_with (first | (at_range; refine wpList_range_own _ rfl _ 73 rfl 9 82 keyedS Try.underlying73 ptrE bm _ M rfl HL2.out.core.map ?_; intro w0 hrg0 hg0 hs0) | go_in)

      have hb0 := (grownBy_only hg0).none_below'
      have HLT : Hid (∀ f ∈ F, f.id < wr.heap.size) := fun f hf => by
        have := (HL2.out.files.at_ f hf).lt
        simpa [World.setCell] using this
      have hrsz : (wr.setCell ⟨bd, 1, none⟩ (.slice none 0 0)).heap.size = wr.heap.size := by simp [World.setCell]
      rw [hrsz] at hrg0 hs0 hb0
      have HRG0 := Lib.hid hrg0
      have HL0 : Hid (Lies S w0 bd bm none 0 hh M { files := F, loose := [], limit := D.limit }) :=
        ⟨HL2.out.core.below (by rw [hrsz]; exact hb0), HL2.out.files.only (Below.only (by rw [hrsz]; exact hb0) fun _ => False) (fun _ _ h => h) (fun _ _ _ _ h => h), HL2.out.reads, HL2.out.mine, HL2.out.ours⟩
      have HO0 : Hid (Only S w w0) := HO2.out.trans (Below.only (by rw [hrsz]; exact hb0) S)
      have hst := proc_start (left := Maps.has M) (fs := F) fun f hf => has_true_of_atKey (HL2.out.reads.at_ f hf)
      have HST := Lib.hid hst
      have hws := HO2.out.size
      rw [hrsz] at hws
      have HWS := Lib.hid hws
      clear hrg0 hg0 hs0 hb0 hst hws HL2 HO2 b0 b1 b2 bz c02
      generalize wr.heap.size = r at *
      clear hrsz
      go_loopw [] (fun wr2 => ∃ (left : Lit → Bool) (cnt : Nat) (M2 : DataW Unit), Hid (wr2.ranges Try.prog 9 ptrE bm r (Maps.size M) M2 left cnt) ∧ Hid (Lies S wr2 bd bm none 0 hh M2 { files := procF left F, loose := [], limit := D.limit }) ∧ Hid (Only S w wr2) ∧ Hid (∀ k, left k = true → Maps.has M k = true)) (fun wr2 => wr2.rangeLeft bm r)
      case atStart => exact ⟨_, _, M, HRG0.out, by rw [HST.out]; exact HL0.out, HO0.out, fun k h => h⟩
      case round =>
        clear HL0 HO0 HRG0 HST
        obtain ⟨left, cnt, M2, HRG, HLI, HON, HLE⟩ := hrel
        go_wp2_with (at_next; refine wpList_next_files keyedS Try.underlying9 rfl _ rfl bm r _ M2 (procF left F) HLI.out.reads left cnt rfl HRG.out ?_ ?_)
        · intro hc0 hl0
          have hE := HLI.out
          rw [proc_end hl0] at hE
          have HE := Lib.hid hE
          clear hE hl0 HRG HLI
          go_wp2
          go_end0
          refine ⟨rfl, ?_, HON.out⟩
          rw [HCR.out]
          exact DiskAt.mono ⟨_, _, _, _, _, HE.out⟩ fun k hk => .inl hk
        · intro f w1 cnt1 hf hlk hrg1 hlt hg1 hs1 hen
          obtain ⟨f0, hf0, _, _, h0⟩ := proc_from hf
          obtain rfl : f = f0 := by
            rcases h0 with h0 | ⟨h0, h1⟩
            · exact h0
            · rw [h1] at hlk
              rw [show (cutF f0).name = f0.name from rfl, h0] at hlk
              cases hlk
          have hl1 := lies_iter HLI.out HRG.out ((grownBy_only hg1).mono fun k _ hk => by injection hk with hk; exact hk.symm)
          have hfa := hl1.files.at_ f hf
          obtain ⟨d0, d1, d2, gz⟩ := hfa.cells
          obtain ⟨b0, b1, b2, bz⟩ := hl1.core.cells
          have s1 := HSF.out f hf0
          have s2 := HSZ.out f hf0
          have s3 := own_room hfa.own
          have t1 : (f.safe : Int) ≤ ((hh f.id).2 : Int) := by omega
          have ho1 : Hid (Only S w w1) := HON.out.trans' (grownBy_only hg1) fun i hi => by injection hi with hi; right; have := HWS.out; omega
          have HRG1 := Lib.hid hrg1
          have HL1 := Lib.hid hl1
          have HF := Lib.hid hf
          have HF0 := Lib.hid hf0
          have HLK := Lib.hid hlk
          have HLT2 := Lib.hid hlt
          clear h0 hl1 hfa hg1 hs1 hrg1 hf hf0 hlk hlt
          go_wp2_with fail
          go_region
          obtain ⟨W3, hW3⟩ : ∃ W3, W3 = (w1.setCell ⟨f.id, 0, none⟩ (.slice (hh f.id).1 f.safe (hh f.id).2)).drew := ⟨_, rfl⟩
          rw [← hW3]
          have ho3 : Only (fun k => k = f.id) w1 W3 := by rw [hW3]; exact (only_setCell w1 ⟨f.id, 0, none⟩ _).trans ((below_drew1 _).only _)
          have hd3 : W3.heap[f.id]? = some (.cells #[.slice (hh f.id).1 f.safe (hh f.id).2, .int .i64 f.safe, .bool f.stays] 84 (0, 0)) := by
            rw [hW3]
            exact heap_setCell_same w1 f.id 0 _ _ _ (HL1.out.files.at_ f HF.out).head
          obtain ⟨hpn, hpi⟩ := proc_pairs (left := left) HNM.out HID.out
          have hl3 := cut_lies HL1.out hpi HF.out s1 ho3 hd3
          have hrg3 : W3.ranges Try.prog 9 ptrE bm r (Maps.size M) M2 (fun z => left z && !z.sameKey (keyS f.name)) cnt1 := by
            have h1 : f.id ≠ bm := map_ne HL1.out.core.map (HL1.out.files.at_ f HF.out).head
            have h2 : f.id ≠ r := iter_ne HRG1.out (HL1.out.files.at_ f HF.out).head
            have hgs : w1.grownBy (w1.setCell ⟨f.id, 0, none⟩ (.slice (hh f.id).1 f.safe (hh f.id).2)) (some f.id) := ⟨rfl, rfl, rfl, by simp [World.setCell], fun i _ hi => heap_setCell_other w1 ⟨f.id, 0, none⟩ i _ (fun e => hi (by rw [e]))⟩
            have := HRG1.out.kept hgs (fun e => h1 (by injection e with e; exact e.symm)) (fun e => h2 (by injection e with e; exact e.symm))
            rw [hW3]
            exact this
          have HO3 : Hid (Only S w W3) := ho1.out.trans (ho3.mono fun k _ hk => by rw [hk]; exact (HL1.out.ours f HF.out).1)
          have a2 := Lib.cell_of_heap hd3 2
          have a2' : W3.cell? ⟨f.id, 2, none⟩ = some (.bool f.stays) := a2
          have b0' := hl3.core.cells.1
          have hps := proc_step left HNM.out HID.out HF0.out HLK.out
          have HPS := Lib.hid hps
          have HL3 := Lib.hid hl3
          have HRG3 := Lib.hid hrg3
          have HPN := Lib.hid hpn
          have HPI := Lib.hid hpi
          have HNF := Lib.hid (HNS.out f HF0.out)
          clear hW3 ho3 hd3 hl3 hrg3 hps hpn hpi a2 d0 d1 d2 gz b0 b1 b2 bz s1 s2 s3 t1 ho1 HON HLI
          cases hst : f.stays with
          | true =>
            rw [hst] at a2'
            have hP := HPS.out
            rw [hst, if_pos rfl] at hP
            have HP := Lib.hid hP
            clear hst hP
            go_wp2
            go_roundw
            case rel => exact ⟨_, cnt1, M2, HRG3.out, by rw [HP.out]; exact HL3.out, HO3.out, fun k hk => HLE.out k (by simp only [Bool.and_eq_true] at hk; exact hk.1)⟩
            case measure =>
              rw [HRG3.out.left_eq, HRG.out.left_eq]
              exact HLT2.out
          | false =>
            rw [hst] at a2'
            have hP := HPS.out
            rw [hst, if_neg (by simp)] at hP
            have HP := Lib.hid hP
            clear hst hP
            go_wp2_with (at_delete; refine wpList_delete_ranges _ rfl _ _ 73 9 rfl 82 keyedS Try.underlying73 ptrE bm r _ M2 _ cnt1 rfl HRG3.out _ (keyS f.name) rfl (keyS_of HNF.out) ?_; intro w4 cnt4 hrg4 hle4 hturn4)
            rw [Maps.strike_twice] at hrg4
            have hq := HL3.out
            have hl4 := drop_lies (q := cutF f) HL3.out (updD_names cutF_keeps HPN.out) (updD_ids cutF_keeps HPI.out) (by
              have := updD_mem (id := f.id) (g := cutF) HF.out
              rwa [if_pos rfl] at this) hrg4.owns hturn4
            have hl5 : Lies S w4 bd bm none 0 hh (M2.del (keyS f.name)) { files := strikeD f.id (procF left F), loose := [], limit := D.limit } := by
              have e := strike_upd f.id cutF_keeps.id (procF left F)
              rw [← e]
              exact hl4
            have HL5 := Lib.hid hl5
            have HRG4 := Lib.hid hrg4
            have HLE4 := Lib.hid hle4
            have HO4 : Hid (Only S w w4) := HO3.out.trans ((turned_only hturn4).mono fun k _ hk => by rw [hk]; exact HL3.out.mine _ (.inr (.inl rfl)))
            clear hq hl4 hl5 hrg4 hle4 hturn4
            go_roundw
            case rel => exact ⟨_, cnt4, _, HRG4.out, by rw [HP.out]; exact HL5.out, HO4.out, fun k hk => HLE.out k (by simp only [Bool.and_eq_true] at hk; exact hk.1)⟩
            case measure =>
              rw [HRG4.out.left_eq, HRG.out.left_eq]
              have := HLE4.out
              have := HLT2.out
              omega
end Go.Proofs.Ytideokbaenkijaa
