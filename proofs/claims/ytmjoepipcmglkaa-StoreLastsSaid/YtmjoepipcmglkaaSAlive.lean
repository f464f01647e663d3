/-
  The law package's alive.
-/
import Derived.Test.YtmjoepipcmglkaaSAliveP
import Derived.Laws.IdiomStrings
import Derived.Lib.UnsafeStr
import Derived.Lib.Bytes
import Derived.Laws.BytesString
namespace Go.Proofs.Ytmjoepipcmglkaa
open Go.RowKit Go.Maps

def Bytes (xs : List Int) : Prop := ∀ x ∈ xs, 0 ≤ x ∧ x < 256
/-- Bytes as a text. -/
def ofL (xs : List Int) : ByteArray := ⟨(Lib.bytesOf xs).toArray⟩
theorem bytes_len (xs : List Int) : (Lib.bytesOf xs).length = xs.length := by simp [Lib.bytesOf]
theorem conv_bytes (w : World) (A : Option Addr) (n cap : Nat) (xs : List Int) (h : RdB w A n xs) (hb : Bytes xs) :
    (convert 32 9 (.slice A n cap)).run Try.prog w = .ok (.string (ofL xs)) w := by
  cases A with
  | none =>
    have hn : n = 0 := by
      cases n with
      | zero => rfl
      | succ n =>
        obtain ⟨c, b, off, _, h2, _⟩ := h.get 0 (by omega)
        cases h2
    subst hn
    obtain rfl : xs = [] := List.eq_nil_of_length_eq_zero h.len.symm
    rw [run_convert_bytes_string w 32 9 5 none 0 cap Try.underlying32 Try.underlying5 Try.underlying9]
    simp [Conv.bytesToString, ofL, Lib.bytesOf]
    rfl
  | some a =>
    have := run_convert_bytes_back (P := Try.prog) w 32 9 5 a cap (Lib.bytesOf xs) Try.underlying32 Try.underlying5 Try.underlying9 (fun j hj => by
      have hj' : j < xs.length := by rw [bytes_len] at hj; exact hj
      obtain ⟨b, off, h1, h2, h3⟩ := h.at_ j xs[j] (List.getElem?_eq_getElem hj')
      injection h1 with h1
      subst h1
      have h4 := h3 0 _ rfl
      rw [show (⟨b, off, none⟩ : Addr).add j = ⟨b, off + j, none⟩ by unfold Addr.add; split <;> simp_all]
      rw [Nat.mul_one, Nat.add_zero] at h4
      rw [h4]
      obtain ⟨h5, h6⟩ := hb _ (List.getElem_mem hj')
      simp only [Lib.bytesOf, List.getElem_map, Option.some.injEq, Value.int.injEq, true_and]
      rw [UInt8.toNat_ofNat']
      omega)
    rw [bytes_len, ← h.len] at this
    exact this

theorem lit_rd (w : World) (a b : Int) : RdB (w.alloc (.cells #[.int .u8 a, .int .u8 b] 5)) (some ⟨w.heap.size, 0, none⟩) 2 [a, b] :=
  rd_block (f := (0, 0)) (heap_alloc_new _ _) [a, b] rfl encB_len

theorem conv_lit (w : World) (x y : Value) : (convert 32 32 (.slice (some ⟨w.heap.size, 0, none⟩) 2 2)).run Try.prog (w.alloc (.cells #[x, y] 5)) = .ok (.slice (some ⟨w.heap.size, 0, none⟩) 2 2) ((w.alloc (.cells #[x, y] 5)).freeze ⟨w.heap.size, 2, none⟩ 1) := by
  have hs : (shape w.heap.size).run Try.prog (w.alloc (.cells #[x, y] 5)) = .ok (some (5, 2)) (w.alloc (.cells #[x, y] 5)) := by
    have : (w.alloc (.cells #[x, y] 5)).heap[w.heap.size]? = some (.cells #[x, y] 5) := heap_alloc_new _ _
    rw [run_shape]
    unfold World.shape?
    rw [this]
    rfl
  simp [convert, run_underlying Try.underlying32, run_underlying Try.underlying5, markStringish, hs]
theorem lit_frozen (w : World) (a b : Int) : RdB ((w.alloc (.cells #[.int .u8 a, .int .u8 b] 5)).freeze ⟨w.heap.size, 2, none⟩ 1) (some ⟨w.heap.size, 0, none⟩) 2 [a, b] :=
  rd_block (f := (2, 3)) (T := 5) (cs := #[.int .u8 a, .int .u8 b]) (by
    unfold World.freeze
    rw [if_neg (by decide)]
    refine (Array.getElem?_modify ..).trans ?_
    rw [if_pos rfl, heap_alloc_new]
    rfl) [a, b] rfl encB_len
theorem lit_below (w : World) (a b : Int) : Below w.heap.size w ((w.alloc (.cells #[.int .u8 a, .int .u8 b] 5)).freeze ⟨w.heap.size, 2, none⟩ 1) :=
  Lib.below_freeze ((Below.refl _ _).alloc (Nat.le_refl _) _) (Nat.le_refl _) 1
set_option maxHeartbeats 4000000 in
set_option maxRecDepth 20000 in
theorem alive_calls (w : World) : Calls Try.prog 7 #[] w fun e w' => e = .returned (.bool true) ∧ Below w.heap.size w w' := by
  have HN := Lib.hid (new_calls 9 w (by decide))
  go_enter Try.func7, Try.ntmps7
  go_wp2_with fail
  refine HN.out.mono ?_
  rintro e w1 ⟨bd, rfl, hd, hb⟩
  have HD := Lib.hid hd
  have HB := Lib.hid hb
  have hc1 := conv_lit w1 (.int .u8 97) (.int .u8 98)
  have hb1 := lit_below w1 97 98
  have HB1 := Lib.hid hb1
  have hW := write_calls (fun k => w.heap.size ≤ k) bd al0 nX (some ⟨w1.heap.size, 0, none⟩) 2 2 [97, 98] _ (hd.below hb1) (ok_new 9 (by decide)) (lit_frozen w1 97 98) (fun e => by cases e) (by decide) (by decide) (by decide) (by decide)
  have HW := Lib.hid hW
  clear hd hb HN hb1 hW
  go_wp2_with fail
  refine HW.out.mono ?_
  rintro e w2 ⟨rfl, ⟨i, o1, o2⟩, o3⟩
  rw [al1_is] at o1 o2
  have e1 : writeE al0 nX ([97, 98] : List Int).length = 0 := al1_e
  rw [e1]
  have hB2 := HB.out.trans ((HB1.out.mono HB.out.size).trans (o3.below (Nat.le_trans HB.out.size HB1.out.size) (fun i hi => hi)))
  have hd2 : DiskAt (fun k => w.heap.size ≤ k) w2 bd (al1 i) := o2.mono fun k hk => hk.elim id fun h => Nat.le_trans (Nat.le_trans HB.out.size HB1.out.size) h
  have hc2 := conv_lit w2 (.int .u8 99) (.int .u8 100)
  have hb3 := lit_below w2 99 100
  have hW2 := write_calls (fun k => w.heap.size ≤ k) bd (al1 i) nY (some ⟨w2.heap.size, 0, none⟩) 2 2 [99, 100] _ (hd2.below hb3) o1 (lit_frozen w2 99 100) (fun e => by cases e) (by simp [al1]) (by simp [al1]) (by decide) (by decide)
  have HB2 := Lib.hid hB2
  have HB3 := Lib.hid hb3
  have HW2 := Lib.hid hW2
  clear o1 o2 o3 hB2 hd2 hb3 hW2 HW hc1
  go_wp2_with fail
  refine HW2.out.mono ?_
  rintro e w3 ⟨rfl, ⟨k, p1, p2⟩, p3⟩
  obtain ⟨q1, q2⟩ := al2_is i k p1
  rw [q1] at p1 p2
  have e2 : writeE (al1 i) nY ([99, 100] : List Int).length = 0 := al2_e i
  rw [e2]
  have hB4 := HB2.out.trans ((HB3.out.mono HB2.out.size).trans (p3.below (Nat.le_trans HB2.out.size HB3.out.size) (fun i hi => hi)))
  have hd4 : DiskAt (fun k => w.heap.size ≤ k) w3 bd (al2 i k) := p2.mono fun k hk => hk.elim id fun h => Nat.le_trans (Nat.le_trans HB2.out.size HB3.out.size) h
  have HB4 := Lib.hid hB4
  have HD4 := Lib.hid hd4
  have HP1 := Lib.hid p1
  have HQ2 := Lib.hid q2
  have hL := Lib.hid (loose_calls _ bd (al2 i k) w3 hd4 p1 (by simp [al2]))
  clear p1 p2 p3 q1 q2 hB4 hd4 HW2 hc2 HB3 HB2 HB1 HB HD
  go_wp2_with fail
  refine hL.out.mono ?_
  rintro e w4 ⟨rfl, r1⟩
  have e3 : looseL (al2 i k).loose = 4 := rfl
  rw [e3]
  have HB5 := Lib.hid (HB4.out.trans (r1.mono HB4.out.size))
  have HC5 := Lib.hid (crash_calls _ bd (al2 i k) 3 w4 (HD4.out.below r1) HP1.out (by simp [al2]) (by decide) (by decide))
  clear r1 hL HD4
  go_wp2_with fail
  refine HC5.out.mono ?_
  rintro e w5 ⟨rfl, s1, s2⟩
  have ec : (al2 i k).crash (3 : Int).toNat = al3 i k := al3_is i k HQ2.out
  rw [ec] at s1
  have hB6 := HB5.out.trans (s2.below HB5.out.size (fun i hi => hi))
  have hd6 : DiskAt (fun k => w.heap.size ≤ k) w5 bd (al3 i k) := s1.mono fun k hk => hk.elim id fun h => Nat.le_trans HB5.out.size h
  have hok6 : (al3 i k).Ok := by rw [← ec]; exact HP1.out.crash _
  have HB6 := Lib.hid hB6
  have HD6 := Lib.hid hd6
  have HOK := Lib.hid hok6
  have fx : findD (al3 i k).files nX = some ⟨nX, i, [97, 98], 2, true⟩ := by simp [al3, findD]
  have fy : findD (al3 i k).files nY = some ⟨nY, k, [99], 1, true⟩ := by
    have : nX ≠ nY := by decide
    simp [al3, findD, this]
  have fz : findD (al3 i k).files nZ = none := by
    have h1 : nX ≠ nZ := by decide
    have h2 : nY ≠ nZ := by decide
    simp [al3, findD, h1, h2]
  have hx := read_calls _ bd (al3 i k) nX w5 hd6 hok6 (by decide)
  rw [fx] at hx
  have HX := Lib.hid hx
  clear s1 s2 hB6 hd6 hok6 hx HC5 HB5 HB4 ec HP1
  go_wp2_with fail
  refine HX.out.mono ?_
  rintro e w6 ⟨⟨v, rfl, hv⟩, hb6⟩
  have hy := read_calls _ bd (al3 i k) nY w6 (HD6.out.below hb6) HOK.out (by decide)
  rw [fy] at hy
  have HY := Lib.hid hy
  have HV := Lib.hid hv
  have HBB := Lib.hid hb6
  clear hv hb6 hy HX
  go_wp2_with fail
  refine HY.out.mono ?_
  rintro e w7 ⟨⟨u, rfl, hu⟩, hb7⟩
  obtain ⟨A, ca, rfl, hr1, _, _⟩ := (HV.out.below hb7).is
  obtain ⟨B, cb, rfl, hr2, _, _⟩ := hu.is
  have hc1 := conv_bytes w7 A 2 ca [97, 98] hr1 (by intro x hx; simp at hx; omega)
  have hc2 := conv_bytes w7 B 1 cb [99] hr2 (by intro x hx; simp at hx; omega)
  rw [show ofL [97, 98] = ⟨#[97, 98]⟩ by decide] at hc1
  rw [show ofL [99] = ⟨#[99]⟩ by decide] at hc2
  have HB7 := Lib.hid (HB6.out.trans ((HBB.out.trans (hb7.mono HBB.out.size)).mono HB6.out.size))
  have HD7 := Lib.hid ((HD6.out.below HBB.out).below hb7)
  have hS := Lib.hid (size_calls _ bd (al3 i k) w7 HD7.out HOK.out)
  clear hu hb7 hr1 hr2 HY HV HBB HB6 HD6
  go_wp2_with fail
  refine hS.out.mono ?_
  rintro e w8 ⟨rfl, t1⟩
  rw [show sizeL (al3 i k).files = 3 from rfl]
  have HB8 := Lib.hid (HB7.out.trans (t1.mono HB7.out.size))
  have HD8 := Lib.hid (HD7.out.below t1)
  have hR := Lib.hid (room_calls _ bd (al3 i k) w8 HD8.out HOK.out)
  clear t1 hS hc1 hc2 HB7 HD7
  go_wp2_with fail
  refine hR.out.mono ?_
  rintro e w9 ⟨rfl, t1⟩
  rw [show ((al3 i k).limit : Int) - (sizeL (al3 i k).files : Nat) = 6 from rfl]
  have HB9 := Lib.hid (HB8.out.trans (t1.mono HB8.out.size))
  have HD9 := Lib.hid (HD8.out.below t1)
  have hM := Lib.hid (names_calls _ bd (al3 i k) w9 HD9.out HOK.out (by simp [al3]))
  clear t1 hR HB8 HD8
  go_wp2_with fail
  refine hM.out.mono ?_
  rintro e w10 ⟨⟨A2, c2, rfl, _⟩, t1⟩
  rw [show (al3 i k).files.length = 2 from rfl]
  have HB10 := Lib.hid (HB9.out.trans (t1.mono HB9.out.size))
  have hY := Lib.hid (sync_calls _ bd (al3 i k) nZ w10 (HD9.out.below t1) HOK.out (by simp [al3]) (by decide))
  clear t1 hM HB9 HD9
  go_wp2_with fail
  refine hY.out.mono ?_
  rintro e w11 ⟨rfl, _, t1⟩
  have e5 : goneE (al3 i k).files nZ = 12 := by unfold goneE; rw [fz]
  rw [e5]
  have HB11 := Lib.hid (HB10.out.trans (t1.below HB10.out.size (fun i hi => hi)))
  clear t1 hY HB10
  go_wp2
  go_ret
  exact ⟨rfl, HB11.out⟩
end Go.Proofs.Ytmjoepipcmglkaa
