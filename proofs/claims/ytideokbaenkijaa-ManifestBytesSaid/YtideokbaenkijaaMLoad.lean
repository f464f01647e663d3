/-
  manifest.Load, swap, follows, Save.
-/
import Derived.Test.YtideokbaenkijaaMRead
import Derived.Test.YtideokbaenkijaaMSwp
namespace Go.Proofs.Ytideokbaenkijaa
open Go.RowKit Go.Maps

/-- Load's answer. -/
def LoadOut (xs : List Int) (w : World) (e : Ending) (w' : World) : Prop := Below w.heap.size w w' ∧ ((readS xs = none ∧ e = .returned (.tuple #[zeroS.v none 0 0, .int .i64 20])) ∨
  ∃ (s : StateD) (m : Nat) (B : Option Addr) (k c : Nat), readS xs = some (s, m) ∧ e = .returned (.tuple #[s.v B k c, .int .i64 0]) ∧ RdN w' B k s.tabs ∧ (B = none → c = 0) ∧ k ≤ 50 ∧ ∀ a, B = some a → w.heap.size < a.block)

set_option maxHeartbeats 4000000 in
set_option maxRecDepth 20000 in
theorem load_calls (S : Nat → Prop) (bd : Nat) (D : DiskD) (name : ByteArray) (w : World) (h : DiskAt S w bd D) (hok : D.Ok) (hs : name.size ≤ maxLen) (hb : Bytes (bytesD D name)) (hn : (bytesD D name).length ≤ 1000000) :
    Calls Try.prog 23 #[.pointer (some ⟨bd, 0, none⟩), .string name] w (LoadOut (bytesD D name) w) := by
  obtain ⟨hbx, cv⟩ := one_box w (zeroS.cells none 0 0) 29
  obtain ⟨W0, hW0⟩ : ∃ W0, W0 = w.alloc (.cells #[.int .i64 0, .int .i64 0, .int .i64 0, .slice none 0 0] 29) := ⟨_, rfl⟩
  have hbx : Below w.heap.size w W0 := by rw [hW0]; exact hbx
  have HRD := Lib.hid (read_calls S bd D name W0 (h.below hbx) hok hs)
  have HB := Lib.hid hb
  have HN := Lib.hid hn
  have HBX := Lib.hid hbx
  have HZ0 : Hid (W0.heap[w.heap.size]? = some (.cells #[.int .i64 0, .int .i64 0, .int .i64 0, .slice none 0 0] 29)) := by unfold Hid; rw [hW0]; exact heap_alloc_new _ _
  have HWZ : Hid (w.heap.size < W0.heap.size) := by unfold Hid; rw [hW0]; simp
  clear h hok hb hn hbx cv
  go_enter Try.func23, Try.ntmps23
  go_wp2_with fail
  rw [← hW0]
  clear hW0
  refine HRD.out.mono ?_
  rintro e w1 ⟨⟨v, rfl, hv⟩, hb1⟩
  have hv2 : Bs w1 v W0.heap.size (bytesD D name) := hv
  have hroom := hv2.room
  have htop := hv2.top
  obtain ⟨A, cap, rfl, hr, hA, _⟩ := hv2.is
  have HR := Lib.hid (readm_calls A _ cap (bytesD D name) w1 hr HB.out HN.out (hroom _ _ _ rfl) (htop _ _ _ rfl))
  generalize (findD D.files name).isSome = b0
  have HB1 := Lib.hid hb1
  clear hv hv2 hr hA HRD hroom htop hb1
  go_wp2_with fail
  refine HR.out.mono ?_
  rintro e w2 ⟨hb2, ⟨hn, rfl⟩ | ⟨s, m, B, k, c, hs, hm, rfl, hrd, hB, hk, hbb⟩⟩
  · have hz : w2.heap[w.heap.size]? = some (.cells #[.int .i64 0, .int .i64 0, .int .i64 0, .slice none 0 0] 29) := (hb2.block _ (Nat.lt_of_lt_of_le HWZ.out HB1.out.size)).trans ((HB1.out.block _ HWZ.out).trans HZ0.out)
    have hlt2 : w.heap.size < w2.heap.size := Nat.lt_of_lt_of_le (Nat.lt_of_lt_of_le HWZ.out HB1.out.size) hb2.size
    have hba : Below w2.heap.size w2 (w2.alloc (.cells #[.int .i64 zeroS.gen, .int .i64 zeroS.app, .int .i64 zeroS.next, .slice none 0 0] 29)) := (Below.refl _ _).alloc (Nat.le_refl _) _
    have hz4 := (hba.block w.heap.size hlt2).trans hz
    have HZ4 := Lib.hid hz4
    obtain ⟨z0, z1, z2, z3, zf⟩ := box4 hz4
    have hs4 := heap_alloc_new w2 (.cells #[.int .i64 zeroS.gen, .int .i64 zeroS.app, .int .i64 zeroS.next, .slice none 0 0] 29)
    obtain ⟨s0, s1, s2, s3, sf⟩ := box4 hs4
    have HBF : Hid (Below w.heap.size w (w2.alloc (.cells #[.int .i64 zeroS.gen, .int .i64 zeroS.app, .int .i64 zeroS.next, .slice none 0 0] 29))) := (HBX.out.trans ((HB1.out.trans (hb2.mono HB1.out.size)).mono HBX.out.size)).alloc (Nat.le_of_lt hlt2) _
    have HN2 := Lib.hid hn
    clear hn
    clear hz hlt2 hba hz4 hs4 hb2 HR
    go_wp2_with fail
    obtain ⟨hs1, hs2⟩ := set4 HZ4.out (.int .i64 zeroS.gen) (.int .i64 zeroS.app) (.int .i64 zeroS.next) (.slice none 0 0)
    obtain ⟨y0, y1, y2, y3, _⟩ := box4 hs1
    have hbf := HBF.out.trans (hs2.below HBF.out.size (fun i hi => Nat.le_of_eq hi.symm))
    refine bodyPost_ret (v := .tuple #[.agg #[.int .i64 zeroS.gen, .int .i64 zeroS.app, .int .i64 zeroS.next, .slice none 0 0], .int .i64 20]) (by simp [results, Try.results23, go_sem, y0, y1, y2, y3]; try rfl) rfl ⟨hbf, .inl ⟨HN2.out, rfl⟩⟩
  · have hz : w2.heap[w.heap.size]? = some (.cells #[.int .i64 0, .int .i64 0, .int .i64 0, .slice none 0 0] 29) := (hb2.block _ (Nat.lt_of_lt_of_le HWZ.out HB1.out.size)).trans ((HB1.out.block _ HWZ.out).trans HZ0.out)
    have hlt2 : w.heap.size < w2.heap.size := Nat.lt_of_lt_of_le (Nat.lt_of_lt_of_le HWZ.out HB1.out.size) hb2.size
    have hba : Below w2.heap.size w2 (w2.alloc (.cells #[.int .i64 s.gen, .int .i64 s.app, .int .i64 s.next, .slice B k c] 29)) := (Below.refl _ _).alloc (Nat.le_refl _) _
    have hz4 := (hba.block w.heap.size hlt2).trans hz
    have HZ4 := Lib.hid hz4
    obtain ⟨z0, z1, z2, z3, zf⟩ := box4 hz4
    have hs4 := heap_alloc_new w2 (.cells #[.int .i64 s.gen, .int .i64 s.app, .int .i64 s.next, .slice B k c] 29)
    obtain ⟨s0, s1, s2, s3, sf⟩ := box4 hs4
    have HBF : Hid (Below w.heap.size w (w2.alloc (.cells #[.int .i64 s.gen, .int .i64 s.app, .int .i64 s.next, .slice B k c] 29))) := (HBX.out.trans ((HB1.out.trans (hb2.mono HB1.out.size)).mono HBX.out.size)).alloc (Nat.le_of_lt hlt2) _
    have HS := Lib.hid hs
    have HRD := Lib.hid (hrd.below hba)
    have HBN := Lib.hid hB
    have HK := Lib.hid hk
    have HBB : Hid (∀ a, B = some a → w.heap.size < a.block) := fun a ha => by have := hbb a ha; have := HWZ.out; have := HB1.out.size; omega
    clear hs hrd hB hk hm hbb
    clear hz hlt2 hba hz4 hs4 hb2 HR
    go_wp2_with fail
    obtain ⟨hs1, hs2⟩ := set4 HZ4.out (.int .i64 s.gen) (.int .i64 s.app) (.int .i64 s.next) (.slice B k c)
    obtain ⟨y0, y1, y2, y3, _⟩ := box4 hs1
    have hbf := HBF.out.trans (hs2.below HBF.out.size (fun i hi => Nat.le_of_eq hi.symm))
    have hrf := HRD.out.only hs2 fun a ha he => by have h8 := HBB.out a ha; have he' : a.block = w.heap.size := he; omega
    refine bodyPost_ret (v := .tuple #[.agg #[.int .i64 s.gen, .int .i64 s.app, .int .i64 s.next, .slice B k c], .int .i64 0]) (by simp [results, Try.results23, go_sem, y0, y1, y2, y3]; try rfl) rfl ⟨hbf, .inr ⟨s, m, B, k, c, HS.out, rfl, hrf, HBN.out, HK.out, HBB.out⟩⟩
end Go.Proofs.Ytideokbaenkijaa
