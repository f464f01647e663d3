/-
  ManifestBits, walked.
-/
import Derived.Test.YtideokbaenkijaaMRef
import Derived.Test.YtideokbaenkijaaMTorn
import Derived.Test.YtideokbaenkijaaMOpen
import Derived.Laws.ShiftsVarLaws
namespace Go.Proofs.Ytideokbaenkijaa
open Go.RowKit

theorem xor_ne (c p : Int) (_ : 0 ≤ c ∧ c < 256) (hp : 0 < p ∧ p < 256) : (0 ≤ bits .xor .u8 c p ∧ bits .xor .u8 c p < 256) ∧ bits .xor .u8 c p ≠ c := by
  have h1 : bits .xor .u8 c p = (((BitVec.ofInt 8 c ^^^ BitVec.ofInt 8 p).toNat : Nat) : Int) := by
    show IntKind.u8.wrap _ = _
    rw [IntKind.wrap_u8]
    have := (BitVec.ofInt 8 c ^^^ BitVec.ofInt 8 p).isLt
    change ((BitVec.ofInt 8 c ^^^ BitVec.ofInt 8 p).toNat : Int) % 256 = _
    omega
  have hlt := (BitVec.ofInt 8 c ^^^ BitVec.ofInt 8 p).isLt
  rw [h1]
  refine ⟨⟨by omega, by omega⟩, fun h => ?_⟩
  have h2 : BitVec.ofInt 8 c ^^^ BitVec.ofInt 8 p = BitVec.ofInt 8 c := by
    apply BitVec.eq_of_toNat_eq
    have h3 : (BitVec.ofInt 8 c).toNat = c.toNat := by rw [BitVec.toNat_ofInt]; omega
    omega
  have h4 : BitVec.ofInt 8 p = 0#8 := by
    have h5 := congrArg (fun x => BitVec.ofInt 8 c ^^^ x) h2
    simp only [← BitVec.xor_assoc, BitVec.xor_self, BitVec.zero_xor] at h5
    exact h5
  have h6 := congrArg BitVec.toNat h4
  rw [BitVec.toNat_ofInt] at h6
  simp at h6
  omega

theorem pow_byte : ∀ r : Nat, r < 8 → 0 < (2 : Int) ^ r % 256 ∧ (2 : Int) ^ r % 256 < 256 := by decide
set_option maxHeartbeats 1000000 in
set_option maxRecDepth 20000 in
theorem bits_law (s : StateD) (A : Option Addr) (k c : Nat) (bit : Int) (w : World) (h : StateIn w s A k c) (hg : -9223372036854775808 ≤ bit ∧ bit < 9223372036854775808) (_ : True) :
    Calls Try.prog 4 #[s.v A k c, .int .i64 bit] w fun e w' => e = .returned (.bool true) ∧ Below w.heap.size w w' := by
  obtain ⟨W0, hW0⟩ : ∃ W0, W0 = w.alloc (.cells #[.int .i64 s.gen, .int .i64 s.app, .int .i64 s.next, .slice A k c] 24) := ⟨_, rfl⟩
  have hbx : Below w.heap.size w W0 := by rw [hW0]; exact (Below.refl _ _).alloc (Nat.le_refl _) _
  have hs0 : W0.heap[w.heap.size]? = some (.cells #[.int .i64 s.gen, .int .i64 s.app, .int .i64 s.next, .slice A k c] 24) := by rw [hW0]; exact heap_alloc_new _ _
  have HAL := Lib.hid (alive_calls W0)
  have HBX := Lib.hid hbx
  have HS0 := Lib.hid hs0
  have HH := Lib.hid h.rd
  have HAN := Lib.hid h.nil
  have HWZ : Hid (w.heap.size < W0.heap.size) := by unfold Hid; rw [hW0]; simp
  clear hbx hs0 h
  go_enter Try.func4, Try.ntmps4
  go_wp2_with fail
  rw [← hW0]
  clear hW0
  refine HAL.out.mono ?_
  rintro e w1 ⟨rfl, hb1⟩
  have HB1 := Lib.hid (HBX.out.trans (hb1.mono HBX.out.size))
  have hs1 := (hb1.block _ HWZ.out).trans HS0.out
  have HS1 := Lib.hid hs1
  obtain ⟨p0, p1, p2, p3, pf⟩ := box4 hs1
  have HZ1 := Lib.hid (Nat.lt_of_lt_of_le HWZ.out hb1.size)
  clear hb1 HAL hs1 HS0 HWZ HBX
  by_cases hk : k > 60
  · have hk' : (k : Int) > 60 := by omega
    go_wp2_with fail
    go_ret
    exact ⟨rfl, HB1.out⟩
  have hk' : ¬ (k : Int) > 60 := by omega
  have hk6 : k ≤ 60 := by omega
  have HOF := Lib.hid (of_calls s A k c w1 (HH.out.below HB1.out) HAN.out (by omega))
  clear hk
  go_wp2_with fail
  refine HOF.out.mono ?_
  rintro e w2 ⟨g, mc, rfl, ho, hb2⟩
  have HEN := Lib.hid (encm_calls s (some ⟨g, 0, none⟩) k mc w2 (ho.rd encN_len) (fun e => by cases e) (by omega))
  have hs2 := (hb2.block _ HZ1.out).trans HS1.out
  have HS2 := Lib.hid hs2
  have HB2 := Lib.hid (HB1.out.trans (hb2.mono HB1.out.size))
  have HZ2 := Lib.hid (Nat.lt_of_lt_of_le HZ1.out hb2.size)
  clear ho hb2 HOF hs2 p0 p1 p2 p3 pf
  go_wp2_with fail
  refine HEN.out.mono ?_
  rintro e w3 ⟨hb3, ⟨hr, rfl⟩ | ⟨hr, B, m, bc, rfl, ho3⟩⟩
  · have hs3 := (hb3.block _ HZ2.out).trans HS2.out
    obtain ⟨p0, p1, p2, p3, pf⟩ := box4 hs3
    have HB3 := Lib.hid (HB2.out.trans (hb3.mono HB2.out.size))
    have HRR := Lib.hid (rright_calls s A k c w3 (HH.out.below HB3.out) (by omega))
    have HR := Lib.hid hr
    clear hb3 hs3 hr HEN
    go_wp2_with fail
    refine HRR.out.mono ?_
    rintro e w4 ⟨rfl, hb4⟩
    rw [HR.out]
    have HB4 := Lib.hid (HB3.out.trans (hb4.mono HB3.out.size))
    clear hb4 HRR
    go_wp2_with fail
    go_ret
    exact ⟨rfl, HB4.out⟩
  have hs3 := (hb3.block _ HZ2.out).trans HS2.out
  have HS3 := Lib.hid hs3
  have HB3 := Lib.hid (HB2.out.trans (hb3.mono HB2.out.size))
  have HZ3 := Lib.hid (Nat.lt_of_lt_of_le HZ2.out hb3.size)
  have HR := Lib.hid hr
  have hml := ho3.1
  have hbl := bytesS_len hr
  have HML := Lib.hid hml
  have hm4 : m ≤ 486 := by omega
  have HRB := Lib.hid (ho3.rd encB_len)
  have HBN := Lib.hid (own_nil_cap ho3)
  have HCP := Lib.hid (own_cap ho3)
  have HDC := Lib.hid (decm_calls B m bc (bytesS s) w3 (ho3.rd encB_len) bytesS_bytes (by omega) (own_cap ho3).1 (own_cap ho3).2)
  clear hb3 hs3 hr ho3 hml hbl HEN HS2
  go_wp2_with fail
  refine HDC.out.mono ?_
  rintro e w4 ⟨hb4, ⟨hd, _⟩ | ⟨t, D4, k4, c4, hd, rfl, hr4, hn4, hk4, hfr4⟩⟩
  · rw [dec_back HR.out] at hd; cases hd
  have ht : t = s := by rw [dec_back HR.out] at hd; injection hd with hd; exact hd.symm
  subst ht
  have hba : Below w4.heap.size w4 (w4.alloc (.cells #[.int .i64 t.gen, .int .i64 t.app, .int .i64 t.next, .slice D4 k4 c4] 29)) := (Below.refl _ _).alloc (Nat.le_refl _) _
  have HB4 := Lib.hid (HB3.out.trans ((hb4.trans (hba.mono hb4.size)).mono HB3.out.size))
  have hs4 := (hba.block _ (Nat.lt_of_lt_of_le HZ3.out hb4.size)).trans ((hb4.block _ HZ3.out).trans HS3.out)
  have hx4 := heap_alloc_new w4 (.cells #[.int .i64 t.gen, .int .i64 t.app, .int .i64 t.next, .slice D4 k4 c4] 29)
  have HS4 := Lib.hid hs4
  have HX4 := Lib.hid hx4
  have HR4 := Lib.hid (hr4.below hba)
  have HK4 := Lib.hid hk4
  have HRB4 := Lib.hid ((HRB.out.below hb4).below hba)
  have HFR := Lib.hid (rframe_calls B m bc (bytesS t) _ HRB4.out HBN.out bytesS_bytes (by omega))
  have HLT : Hid (w.heap.size < (w4.alloc (.cells #[.int .i64 t.gen, .int .i64 t.app, .int .i64 t.next, .slice D4 k4 c4] 29)).heap.size ∧ w4.heap.size < (w4.alloc (.cells #[.int .i64 t.gen, .int .i64 t.app, .int .i64 t.next, .slice D4 k4 c4] 29)).heap.size) := ⟨(Array.getElem?_eq_some_iff.1 hs4).1, (Array.getElem?_eq_some_iff.1 hx4).1⟩
  clear hb4 hba hs4 hx4 hr4 hn4 hk4 hfr4 hd HDC HS3 HRB
  go_wp2_with fail
  refine HFR.out.mono ?_
  rintro e w5 ⟨F, fm, fcap, rfl, ho5, hb5⟩
  have HB5 := Lib.hid (HB4.out.trans (hb5.mono HB4.out.size))
  obtain ⟨p0, p1, p2, p3, pf⟩ := box4 ((hb5.block _ HLT.out.1).trans HS4.out)
  obtain ⟨x0, x1, x2, x3, xf⟩ := box4 ((hb5.block _ HLT.out.2).trans HX4.out)
  have HO5 := Lib.hid ho5
  have HZ5 := Lib.hid HB4.out.size
  have HSM := Lib.hid (same_calls t t D4 A k4 k c4 c w5 (HR4.out.below hb5) (HH.out.below HB5.out) HAN.out (by have := HK4.out; omega) (by omega))
  clear ho5 hb5 HFR HS4 HX4 HR4 HRB4
  go_wp2_with fail
  refine HSM.out.mono ?_
  rintro e w6 ⟨rfl, hb6⟩
  rw [show decide True = true from rfl]
  have HB6 := Lib.hid (HB5.out.trans (hb6.mono HB5.out.size))
  have HO6 := Lib.hid (HO5.out.below hb6)
  have hfl : fm = (vlq m).length + m + 4 := by rw [HO5.out.1]; unfold frameL; rw [List.length_append, List.length_append, endL_len, ← HML.out]
  have hvl : (vlq m).length ≤ 9 := vlq_small (by omega)
  obtain ⟨vl, hvl2⟩ : ∃ vl, vl = (vlq m).length := ⟨_, rfl⟩
  rw [← hvl2] at hfl hvl
  have HVL := Lib.hid hvl2
  clear hb6 hvl2 HSM p0 p1 p2 p3 pf x0 x1 x2 x3 xf HO5
  have e1 : wrap64 ((fm : Int) - m) = (vl : Int) + 4 := by unfold wrap64; omega
  have e2 : wrap64 ((vl : Int) + 4 - 4) = (vl : Int) := by unfold wrap64; omega
  have e3 : wrap64 (8 * (vl : Int)) = 8 * (vl : Int) := by unfold wrap64; omega
  have e4 : wrap64 (8 * (fm : Int)) = 8 * (fm : Int) := by unfold wrap64; omega
  by_cases hlo : bit < 8 * vl
  · go_wp2_with fail
    go_ret
    exact ⟨rfl, HB6.out⟩
  by_cases hhi : bit ≥ 8 * fm
  · go_wp2_with fail
    go_ret
    exact ⟨rfl, HB6.out⟩
  go_wp2_with fail
  obtain ⟨bn, rfl⟩ : ∃ bn : Nat, bit = bn := ⟨bit.toNat, by clear e1 e2 e3 e4; omega⟩
  obtain ⟨i, hi⟩ : ∃ i, i = bn / 8 := ⟨_, rfl⟩
  obtain ⟨r, hr⟩ : ∃ r, r = bn % 8 := ⟨_, rfl⟩
  clear e1 e2 e3 e4
  subst hfl
  have hil : i < vl + m + 4 := by omega
  have hiv : vl ≤ i := by omega
  have hr8 : r < 8 := by omega
  have hd8 : (bn : Int) / 8 = (i : Int) := by omega
  have hm8 : (bn : Int) % 8 = (r : Int) := by omega
  obtain ⟨ci, fb, fo, hci, rfl, _, h8⟩ := (HO6.out.rd encB_len).get i hil
  have c0 := h8 0 _ rfl
  simp only [Nat.mul_one, Nat.add_zero] at c0
  obtain rfl : fo = 0 := by
    rcases HO6.out.shape with ⟨e, _⟩ | ⟨q, e, _⟩
    · cases e
    · injection e with e; injection e
  rw [Nat.zero_add] at c0
  have HCI := Lib.hid hci
  have HIV := Lib.hid hiv
  have hff : w6.frozen? ⟨fb, i, none⟩ = false := by
    obtain ⟨_, _, ⟨h2, _⟩ | ⟨g', cap', cur, h3, _, h5, _⟩⟩ := HO6.out
    · injection h2 with h2; cases h2
    · injection h3 with h3; injection h3 with h3; injection h3 with h3; subst h3
      simp [World.frozen?, h5]
  have HGI : Hid ((Sem.run Try.prog (Instr.indexAt 25 (.slice (some ⟨fb, 0, none⟩) (vl + m + 4) fcap) (.int .i64 (i : Int))) w6) = .ok (.pointer (some ⟨fb, i, none⟩)) w6) := by
    unfold Hid
    have hi5 : i < 600 := by omega
    clear hci h8 hlo hhi hd8 hm8 hi hr
    go_simp
    intro hc
    omega
  clear hi hr hci h8 hlo hhi hvl hiv hg
  rw [hd8, HGI.out]
  clear HGI hd8
  go_simp
  go_wp2_with fail
  have hci5 : 0 ≤ ci ∧ ci < 256 := by
    have := frameL_bytes (bytesS_bytes (s := t)) ci (List.mem_of_getElem? HCI.out)
    exact this
  obtain ⟨hv1, hv2⟩ := xor_ne ci ((2 : Int) ^ r % 256) hci5 (pow_byte r hr8)
  generalize bits BinOp.xor IntKind.u8 ci ((2 : Int) ^ r % 256) = v at hv1 hv2 ⊢
  have hset := own_set encB_len HO6.out i 0 v ci (.int .u8 v) HCI.out (by decide) rfl
  rw [show i * 1 + 0 = i by omega] at hset
  have HB7 := Lib.hid (HB6.out.trans (hset.2.below HB6.out.size fun x hx => by
    injection hx with hx; injection hx with hx
    have h1 := own_above HO6.out fb rfl
    have h2 := HZ5.out
    omega))
  have hbl := bytesS_len HR.out
  have hno := read_turned (bytesS_bytes (s := t)) (by omega) HCI.out (by rw [← HML.out, ← HVL.out]; exact HIV.out) hv1 hv2
  have hby : Bytes ((frameL (bytesS t)).set i v) := fun y hy => by
    rcases List.mem_or_eq_of_mem_set hy with hy | rfl
    · exact frameL_bytes bytesS_bytes y hy
    · exact hv1
  obtain ⟨oc1, oc2⟩ := own_cap hset.1
  have hv9 : vl + m + 4 ≤ 1000000 := by have := hset.1.1; have h3 := frame_len HR.out; rw [List.length_set] at this; omega
  have HRD := Lib.hid (readm_calls (some ⟨fb, 0, none⟩) (vl + m + 4) fcap _ _ (hset.1.rd encB_len) hby hv9 oc1 oc2)
  have HNO := Lib.hid hno
  clear hset hbl hno hby oc1 oc2 hv1 hv2 hci5 c0 hff hm8 hr8
  refine HRD.out.mono ?_
  rintro e w8 ⟨hb8, ⟨_, rfl⟩ | ⟨s8, m8, _, _, _, h8, _⟩⟩
  case inr => rw [HNO.out] at h8; cases h8
  have hba : Below w8.heap.size w8 (w8.alloc (.cells #[.int .i64 zeroS.gen, .int .i64 zeroS.app, .int .i64 zeroS.next, .slice none 0 0] 29)) := (Below.refl _ _).alloc (Nat.le_refl _) _
  have HB8 := Lib.hid (HB7.out.trans ((hb8.trans (hba.mono hb8.size)).mono HB7.out.size))
  obtain ⟨z0, z1, z2, z3, _⟩ := box4 (heap_alloc_new w8 (.cells #[.int .i64 zeroS.gen, .int .i64 zeroS.app, .int .i64 zeroS.next, .slice none 0 0] 29))
  have HSZ := Lib.hid (same_calls zeroS zeroS none none 0 0 0 0 (w8.alloc (.cells #[.int .i64 zeroS.gen, .int .i64 zeroS.app, .int .i64 zeroS.next, .slice none 0 0] 29)) (Rd.nil _ _ _ _) (Rd.nil _ _ _ _) (fun _ => rfl) (by decide) (by decide))
  clear hb8 hba HRD
  go_wp2_with fail
  refine HSZ.out.mono ?_
  rintro e w9 ⟨rfl, hb9⟩
  rw [show decide True = true from rfl]
  have HB9 := Lib.hid (HB8.out.trans (hb9.mono HB8.out.size))
  clear hb9 HSZ
  go_wp2_with fail
  go_ret
  exact ⟨rfl, HB9.out⟩
end Go.Proofs.Ytideokbaenkijaa
