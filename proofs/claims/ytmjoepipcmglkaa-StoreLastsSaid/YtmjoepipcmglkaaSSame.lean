/-
  joistref00.SameBytes, Texts, SameTexts.
-/
import Derived.Test.YtmjoepipcmglkaaSGreat
import Derived.Lib.Bytealg
namespace Go.Proofs.Ytmjoepipcmglkaa
open Go.RowKit

section
variable {α : Type}
theorem rd_block {sz : Nat} {enc : α → List Value} {w : World} {b : Nat} {cs : Array Value} {T : TypeId} {f : Nat × Nat} (h : w.heap[b]? = some (.cells cs T f)) (xs : List α) (hx : cs.toList = xs.flatMap enc) (hsz : ∀ x, (enc x).length = sz) :
    Rd sz enc w (some ⟨b, 0, none⟩) xs.length xs :=
  ⟨rfl, fun i c hc => by
    have hb : b < w.heap.size := by
      rcases Nat.lt_or_ge b w.heap.size with hh | hh
      · exact hh
      · rw [Array.getElem?_eq_none hh] at h; cases h
    refine ⟨b, 0, rfl, hb, fun j v hv => ?_⟩
    have := flat_at hsz xs i j c v hc hv
    rw [← hx, Array.getElem?_toList] at this
    simp [World.cell?, h, this]⟩
end
theorem str_beq (s t : ByteArray) : (s.toList == t.toList) = decide (s = t) := by
  rw [Bool.eq_iff_iff, beq_iff_eq, decide_eq_true_eq, ByteArray.toList_eq, ByteArray.toList_eq]
  constructor
  · intro h
    cases s; cases t
    simpa using h
  · rintro rfl; rfl
theorem drewN_below (w : World) : ∀ n, Below w.heap.size w (w.drewN n) := by
  have : ∀ (n : Nat) (W : World), Below w.heap.size W (W.drewN n) := by
    intro n
    induction n with
    | zero => intro W; exact Below.refl _ _
    | succ n ih => intro W; exact ((ih W).trans (Below.drew (Below.refl _ _)))
  exact fun n => this n w
set_option maxHeartbeats 1000000 in
theorem sameb_calls (A B : Option Addr) (n m ca cb : Nat) (xs ys : List Int) (w : World) (hx : RdB w A n xs) (hy : RdB w B m ys) (hn : n ≤ 100000000) (hm : m ≤ 100000000) :
    Calls Try.prog 18 #[.slice A n ca, .slice B m cb] w fun e w' => e = .returned (.bool (decide (xs = ys))) ∧ ∃ q, w' = w.drewN q := by
  by_cases hnm : n = m
  · subst hnm
    go_enter Try.func18, Try.ntmps18
    go_wp2
    go_loopw [5] (fun i wr => ∃ k q : Nat, k ≤ n ∧ i = .int .i64 k ∧ wr = w.drewN q ∧ Hid (xs.take k = ys.take k)) (fun i _ => n - (intOf i).toNat)
    case atStart => exact ⟨0, 0, Nat.zero_le _, rfl, rfl, rfl⟩
    case round =>
      obtain ⟨k, q, hk, rfl, rfl, hall⟩ := hrel
      by_cases hlt : k < n
      · obtain ⟨c, b, off, hc, rfl, _, hk8⟩ := hx.get k hlt
        obtain ⟨d, b', off', hd, rfl, _, hl8⟩ := hy.get k hlt
        have k0 : w.cell? ⟨b, off + k, none⟩ = some (.int .u8 c) := by have := hk8 0 _ rfl; simpa using this
        have l0 : w.cell? ⟨b', off' + k, none⟩ = some (.int .u8 d) := by have := hl8 0 _ rfl; simpa using this
        clear hk8 hl8
        have HX := Lib.hid hx
        have HY := Lib.hid hy
        have HC := Lib.hid hc
        have HD := Lib.hid hd
        clear hx hy hc hd
        by_cases heq : c = d
        · have hn : (c != d) = false := by simp [heq]
          have hE := Lib.hid heq
          clear heq
          go_wp2
          go_quiet (fail)
          go_wp2
          go_roundw
          case rel =>
            refine ⟨k + 1, q + nq, by omega, by go_num, rfl, ?_⟩
            have := hall.out
            show xs.take (k + 1) = ys.take (k + 1)
            rw [List.take_add_one, List.take_add_one, HC.out, HD.out, this, hE.out]
          case measure => simp [intOf]; omega
        · have hn : (c != d) = true := by simp [heq]
          have hE : Hid (¬ xs = ys) := fun e => by
            have h1 := HC.out
            rw [e, HD.out] at h1
            exact heq (Option.some.inj h1).symm
          clear heq
          go_wp2
          go_quiet (fail)
          go_wp2
          go_ret
          exact ⟨ret_bool (by rw [decide_eq_false hE.out]), _, by rw [World.drewN_drewN]⟩
      · have hE : Hid (xs = ys) := by
          have := hall.out
          have h1 := hx.len
          have h2 := hy.len
          rwa [List.take_of_length_le (by omega), List.take_of_length_le (by omega)] at this
        clear hx hy
        go_wp2
        go_ret
        exact ⟨ret_bool (by rw [decide_eq_true hE.out]), _, rfl⟩
  · have hE : Hid (¬ xs = ys) := fun e => hnm (by rw [hx.len, hy.len, e])
    have h1 : ((n : Int) != (m : Int)) = true := by simp; omega
    clear hx hy
    go_enter Try.func18, Try.ntmps18
    go_wp2
    go_ret
    exact ⟨ret_bool (by rw [decide_eq_false hE.out]), 0, rfl⟩

def cmpS (a b : ByteArray) : Int := Lib.compareBytes a.data.toList b.data.toList
theorem cmp_drop (a b : ByteArray) (k : Nat) (ha : k < a.size) (hb : k < b.size) :
    Lib.compareBytes (a.data.toList.drop k) (b.data.toList.drop k) = if (a[k]).toNat < (b[k]).toNat then -1 else if (b[k]).toNat < (a[k]).toNat then 1 else Lib.compareBytes (a.data.toList.drop (k + 1)) (b.data.toList.drop (k + 1)) := by
  rw [List.drop_eq_getElem_cons (l := a.data.toList) (by simpa using ha), List.drop_eq_getElem_cons (l := b.data.toList) (by simpa using hb)]
  simp only [Lib.compareBytes, UInt8.lt_iff_toNat_lt]
  rfl
theorem cmp_end1 (a b : ByteArray) (k : Nat) (ha : a.size ≤ k) (hb : k < b.size) : Lib.compareBytes (a.data.toList.drop k) (b.data.toList.drop k) = -1 := by
  rw [List.drop_eq_nil_of_le (by simpa using ha), List.drop_eq_getElem_cons (l := b.data.toList) (by simpa using hb)]
  rfl
theorem cmp_end2 (a b : ByteArray) (k : Nat) (ha : k < a.size) (hb : b.size ≤ k) : Lib.compareBytes (a.data.toList.drop k) (b.data.toList.drop k) = 1 := by
  rw [List.drop_eq_nil_of_le (i := k) (show b.data.toList.length ≤ k by simpa using hb), List.drop_eq_getElem_cons (l := a.data.toList) (by simpa using ha)]
  rfl
theorem cmp_end3 (a b : ByteArray) (k : Nat) (ha : a.size ≤ k) (hb : b.size ≤ k) : Lib.compareBytes (a.data.toList.drop k) (b.data.toList.drop k) = 0 := by
  rw [List.drop_eq_nil_of_le (by simpa using ha), List.drop_eq_nil_of_le (by simpa using hb)]
  rfl

set_option maxHeartbeats 1000000 in
theorem texts_calls (a b : ByteArray) (w : World) (ha : a.size ≤ 140737488351232) (_ : b.size ≤ 140737488351232) : Calls Try.prog 29 #[.string a, .string b] w fun e w' => e = .returned (.int .i64 (cmpS a b)) ∧ ∃ q, w' = w.drewN q := by
  go_enter Try.func29, Try.ntmps29
  go_wp2
  go_loopw [5] (fun i wr => ∃ k q : Nat, k ≤ a.size ∧ k ≤ b.size ∧ i = .int .i64 k ∧ wr = w.drewN q ∧ Lib.compareBytes (a.data.toList.drop k) (b.data.toList.drop k) = cmpS a b) (fun i _ => a.size - (intOf i).toNat)
  case atStart => exact ⟨0, 0, Nat.zero_le _, Nat.zero_le _, rfl, rfl, rfl⟩
  case round =>
    obtain ⟨k, q, hk1, hk2, rfl, rfl, hor⟩ := hrel
    have Hor := Lib.hid hor
    clear hor
    by_cases h1 : k < a.size
    · by_cases h2 : k < b.size
      · have Hd := Lib.hid (cmp_drop a b k h1 h2)
        by_cases hne : (a[k]).toNat = (b[k]).toNat
        · have hn : ((a[k].toNat : Int) != (b[k].toNat : Int)) = false := by simp [hne]
          have Hne := Lib.hid hne
          clear hne
          go_wp2
          go_quiet (fail)
          go_wp2
          go_roundw
          case rel => exact ⟨k + 1, q + nq, by omega, by omega, by go_num, rfl, by rw [← Hor.out, Hd.out, if_neg (by rw [Hne.out]; omega), if_neg (by rw [Hne.out]; omega)]⟩
          case measure => simp [intOf]; omega
        · have hn : ((a[k].toNat : Int) != (b[k].toNat : Int)) = true := by simp; omega
          by_cases hlt : (a[k]).toNat < (b[k]).toNat
          · have hl : decide ((a[k].toNat : Int) < (b[k].toNat : Int)) = true := decide_eq_true (by omega)
            go_wp2
            go_quiet (fail)
            go_wp2
            go_quiet (fail)
            go_wp2
            go_ret
            exact ⟨ret_int (by rw [← Hor.out, Hd.out, if_pos hlt]), _, by rw [World.drewN_drewN, World.drewN_drewN]⟩
          · have hl : decide ((a[k].toNat : Int) < (b[k].toNat : Int)) = false := decide_eq_false (by omega)
            go_wp2
            go_quiet (fail)
            go_wp2
            go_quiet (fail)
            go_wp2
            go_ret
            exact ⟨ret_int (by rw [← Hor.out, Hd.out, if_neg hlt, if_pos (by omega)]), _, by rw [World.drewN_drewN, World.drewN_drewN]⟩
      · have e1 : b.size < a.size := by omega
        go_wp2
        go_ret
        exact ⟨ret_int (by rw [← Hor.out, cmp_end2 a b k h1 (by omega)]), _, rfl⟩
    · by_cases h2 : k < b.size
      · have e1 : a.size < b.size := by omega
        go_wp2
        go_ret
        exact ⟨ret_int (by rw [← Hor.out, cmp_end1 a b k (by omega) h2]), _, rfl⟩
      · have e1 : ¬ a.size < b.size := by omega
        have e2 : ¬ b.size < a.size := by omega
        go_wp2
        go_ret
        exact ⟨ret_int (by rw [← Hor.out, cmp_end3 a b k (by omega) (by omega)]), _, rfl⟩

set_option maxHeartbeats 1000000 in
theorem samet_calls (A B : Option Addr) (n m ca cb : Nat) (xs ys : List ByteArray) (w : World) (hx : Rd 1 encS w A n xs) (hy : Rd 1 encS w B m ys) (hn : n ≤ 100000000) (hm : m ≤ 100000000) :
    Calls Try.prog 20 #[.slice A n ca, .slice B m cb] w fun e w' => e = .returned (.bool (decide (xs = ys))) ∧ ∃ q, w' = w.drewN q := by
  by_cases hnm : n = m
  · subst hnm
    go_enter Try.func20, Try.ntmps20
    go_wp2
    go_loopw [5] (fun i wr => ∃ k q : Nat, k ≤ n ∧ i = .int .i64 k ∧ wr = w.drewN q ∧ Hid (xs.take k = ys.take k)) (fun i _ => n - (intOf i).toNat)
    case atStart => exact ⟨0, 0, Nat.zero_le _, rfl, rfl, rfl⟩
    case round =>
      obtain ⟨k, q, hk, rfl, rfl, hall⟩ := hrel
      by_cases hlt : k < n
      · obtain ⟨c, b, off, hc, rfl, _, hk8⟩ := hx.get k hlt
        obtain ⟨d, b', off', hd, rfl, _, hl8⟩ := hy.get k hlt
        have k0 : w.cell? ⟨b, off + k, none⟩ = some (.string c) := by have := hk8 0 _ rfl; simpa using this
        have l0 : w.cell? ⟨b', off' + k, none⟩ = some (.string d) := by have := hl8 0 _ rfl; simpa using this
        clear hk8 hl8
        have HX := Lib.hid hx
        have HY := Lib.hid hy
        have HC := Lib.hid hc
        have HD := Lib.hid hd
        clear hx hy hc hd
        by_cases heq : c = d
        · have hn : (c.toList == d.toList) = true := by rw [str_beq]; exact decide_eq_true heq
          have hE := Lib.hid heq
          clear heq
          go_wp2
          go_quiet (fail)
          go_wp2
          go_roundw
          case rel =>
            refine ⟨k + 1, q + nq, by omega, by go_num, rfl, ?_⟩
            have := hall.out
            show xs.take (k + 1) = ys.take (k + 1)
            rw [List.take_add_one, List.take_add_one, HC.out, HD.out, this, hE.out]
          case measure => simp [intOf]; omega
        · have hn : (c.toList == d.toList) = false := by rw [str_beq]; exact decide_eq_false heq
          have hE : Hid (¬ xs = ys) := fun e => by
            have h1 := HC.out
            rw [e, HD.out] at h1
            exact heq (Option.some.inj h1).symm
          clear heq
          go_wp2
          go_quiet (fail)
          go_wp2
          go_ret
          exact ⟨ret_bool (by rw [decide_eq_false hE.out]), _, by rw [World.drewN_drewN]⟩
      · have hE : Hid (xs = ys) := by
          have := hall.out
          have h1 := hx.len
          have h2 := hy.len
          rwa [List.take_of_length_le (by omega), List.take_of_length_le (by omega)] at this
        clear hx hy
        go_wp2
        go_ret
        exact ⟨ret_bool (by rw [decide_eq_true hE.out]), _, rfl⟩
  · have hE : Hid (¬ xs = ys) := fun e => hnm (by rw [hx.len, hy.len, e])
    have h1 : ((n : Int) != (m : Int)) = true := by simp; omega
    clear hx hy
    go_enter Try.func20, Try.ntmps20
    go_wp2
    go_ret
    exact ⟨ret_bool (by rw [decide_eq_false hE.out]), 0, rfl⟩
end Go.Proofs.Ytmjoepipcmglkaa
