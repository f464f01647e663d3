/-
  val.plain, val.Encode: a right value's bytes.
-/
import Derived.Test.YtonghiaocpenaaaGreatDoorKFloat
import Derived.Deep.RegionLaw
namespace Go.Proofs.YtonghiaocpenaaaGreatDoor
open Go.RowKit

set_option maxRecDepth 20000 in
/-- append(out, l...) of bytes: its run. -/
theorem run_app_bytes {w : World} {base n cap m cm : Nat} {A B : Option Addr} {xs ys : List Int} (hown : OwnB w base A n cap xs) (hB : B = none → cm = 0) (hy : RdB w B m ys) (hn : n + m ≤ 100000000) (hbase : base ≤ w.heap.size) (ty : TypeId) :
    ∃ A' cap' w', (Builtin.append_ #[29, 29] ty #[.slice A n cap, .slice B m cm]).run Tryz.prog w = .ok (.slice A' (n + m) cap') w' ∧ OwnB w' base A' (n + m) cap' (xs ++ ys) ∧ Only (fun k => A = some ⟨k, 0, none⟩) w w' ∧
      (∀ g, A' = some ⟨g, 0, none⟩ → A = some ⟨g, 0, none⟩ ∨ w.heap.size ≤ g) ∧ (A' = none → A = none) := by
  obtain ⟨i0, hi, hz0, hz1, hz2⟩ := info_parts infoByte
  cases B with
  | none =>
    have hm0 : m = 0 := by
      cases m with
      | zero => rfl
      | succ m =>
        obtain ⟨c, b, off, _, h2, _⟩ := hy.get 0 (by omega)
        cases h2
    subst hm0
    obtain rfl := hB rfl
    obtain rfl : ys = [] := List.eq_nil_of_length_eq_zero hy.len.symm
    have hrun := run_append_owned_none (P := Tryz.prog) (w := w) base 29 ty 5 i0 1 Tryz.underlying29 hi _ n (xs.flatMap encB) hown.2
    exact ⟨A, cap, w, hrun, by rw [List.append_nil, Nat.add_zero]; exact hown, Only.refl _ _, fun g hg => .inl hg, fun h => h⟩
  | some ad =>
    obtain ⟨v', w', hr, hown', hgrow, hnil, hat⟩ := run_append_own_at (P := Tryz.prog) w base 29 ty 5 i0 _ 1 1 Tryz.underlying29 hi hz0 hz1 hz2 rfl (by omega) _ n (xs.flatMap encB) hown.2 ad m cm (ys.flatMap encB) (by rw [flat_len encB_len, hy.len]) (fun j u hj => by
      obtain ⟨i, r, c, h2, h3, rfl⟩ := flat_back encB_len ys j u hj
      obtain ⟨b, off, h4, _, h5⟩ := hy.at_ i c h2
      injection h4 with h4
      subst h4
      have := h5 r u h3
      unfold Addr.add
      split
      · rename_i h0
        have e : off + i * 1 + r = off := by omega
        rw [e] at this; exact this
      · have e : off + i * 1 + r = off + (i * 1 + r) := by omega
        rw [e] at this; exact this) (fun u hu => by
      obtain ⟨c, _, hc⟩ := List.mem_flatMap.1 hu
      exact encB_one c u hc) (by unfold maxLen; omega) (by omega) hbase
    have hform : ∃ A' cap', v' = .slice A' (n + m) cap' ∧ (A' = none ∨ ∃ g, A' = some ⟨g, 0, none⟩) := by
      rcases hown'.2 with ⟨h2, h3⟩ | ⟨g, cap', cur, h2, _⟩
      · exact ⟨none, 0, by rw [h2, h3], .inl rfl⟩
      · exact ⟨_, cap', h2, .inr ⟨g, rfl⟩⟩
    obtain ⟨A', cap', rfl, hA'⟩ := hform
    refine ⟨A', cap', w', hr, ⟨by rw [List.length_append, hown.1, hy.len], by rw [List.flatMap_append]; exact hown'⟩, (grownBy_only hgrow).mono fun k _ hk => ?_, fun g hg => ?_, fun hn => ?_⟩
    · rcases hown.shape with ⟨hA, _⟩ | ⟨g', hA, _⟩
      · rw [hA] at hk; cases hk
      · rw [hA] at hk ⊢; simp only [Value.ownBlock, Option.some.injEq] at hk; rw [hk]
    · subst hg
      rcases hat with hat | hat
      · left
        rcases hown.shape with ⟨hA, _⟩ | ⟨g', hA, _⟩
        · rw [hA] at hat; cases hat
        · rw [hA] at hat ⊢; simp only [Value.ownBlock, Option.some.injEq] at hat; rw [hat]
      · right; simp only [Value.ownBlock, Option.some.injEq] at hat; omega
    · subst hn
      rcases hown'.2 with ⟨h2, h3⟩ | ⟨g, cap', cur, h2, _⟩
      · have := (hnil.1 h2).1
        injection this
      · injection h2 with h2; cases h2
theorem app_bytes {w : World} {ops : Array Oper} {rest : List Oper} {o : Oper} {a : Act} {Q : Exit → Act → World → Prop} (hgd : o.guard = none) (s x : Operand)
    (ho : o.op = .call { callee := .builtin .append, args := #[s, x], argTypes := #[29, 29] })
    {base n cap m cm : Nat} {A B : Option Addr} {xs ys : List Int} (hs : a.eval s = .slice A n cap) (hown : OwnB w base A n cap xs) (hx : a.eval x = .slice B m cm) (hB : B = none → cm = 0) (hy : RdB w B m ys) (hn : n + m ≤ 100000000) (hbase : base ≤ w.heap.size)
    (h : ∀ A' cap' w', OwnB w' base A' (n + m) cap' (xs ++ ys) → Only (fun k => A = some ⟨k, 0, none⟩) w w' → (∀ g, A' = some ⟨g, 0, none⟩ → A = some ⟨g, 0, none⟩ ∨ w.heap.size ≤ g) → (A' = none → A = none) →
      wpList Tryz.prog ops Q rest (a.put o.dst (.slice A' (n + m) cap')) w') : wpList Tryz.prog ops Q (o :: rest) a w := by
  obtain ⟨A', cap', w', hr, h2, h3, h4, h5⟩ := run_app_bytes hown hB hy hn hbase o.type
  exact Lib.wpList_append_run _ hgd s x _ _ ho _ _ hs hx _ _ hr (h A' cap' w' h2 h3 h4 h5)
theorem step_app_bytes {w : World} {ops : Array Oper} {o : Oper} {a : Act} {K : Act → World → Prop} {Q : Exit → Act → World → Prop} {E : Prop} (hgd : o.guard = none) (s x : Operand)
    (ho : o.op = .call { callee := .builtin .append, args := #[s, x], argTypes := #[29, 29] })
    {base n cap m cm : Nat} {A B : Option Addr} {xs ys : List Int} (hs : a.eval s = .slice A n cap) (hown : OwnB w base A n cap xs) (hx : a.eval x = .slice B m cm) (hB : B = none → cm = 0) (hy : RdB w B m ys) (hn : n + m ≤ 100000000) (hbase : base ≤ w.heap.size)
    (h : ∀ A' cap' w', OwnB w' base A' (n + m) cap' (xs ++ ys) → Only (fun k => A = some ⟨k, 0, none⟩) w w' → (∀ g, A' = some ⟨g, 0, none⟩ → A = some ⟨g, 0, none⟩ ∨ w.heap.size ≤ g) → (A' = none → A = none) →
      K (a.put o.dst (.slice A' (n + m) cap')) w') : if Region.wanted o (yielded ops a.tmps) = true then Oper.wp Tryz.prog o a w K Q else E := by
  have hw : Region.wanted o (yielded ops a.tmps) = true := by simp [Region.wanted, hgd]
  rw [if_pos hw]
  obtain ⟨A', cap', w', hr, h2, h3, h4, h5⟩ := run_app_bytes hown hB hy hn hbase o.type
  exact Lib.wp_append_run _ s x _ _ ho _ _ hs hx _ _ hr (h A' cap' w' h2 h3 h4 h5)

/-- A literal of bytes. -/
theorem own_bytes {w : World} {base : Nat} {cs : Array Value} {xs : List Int} (hx : cs.toList = xs.map (Value.int .u8)) (hb : base ≤ w.heap.size) (hs : xs.length ≤ 1000000) : OwnB (w.alloc (.cells cs 5)) base (some ⟨w.heap.size, 0, none⟩) xs.length xs.length xs := by
  have hl : cs.size = xs.length := by rw [← Array.length_toList, hx, List.length_map]
  refine ⟨rfl, by rw [flatB]; simp, .inr ⟨w.heap.size, xs.length, cs, rfl, hb, by rw [heap_alloc_new], Nat.le_refl _, by unfold maxLen; omega, by omega, ?_⟩⟩
  rw [flatB, ← hx, List.take_of_length_le (by rw [Array.length_toList]; omega)]

/-- A right value's bytes, behind its kind's. -/
def plainL (k n : Int) (s : ByteArray) : List Int :=
  if k = 1 then eightL (n + 9223372036854775808) else if k = 5 then eightL (rankN (n % 18446744073709551616)) else if k = 4 then [n] else escL s
/-- A right value's bytes. -/
def valL (k n : Int) (s : ByteArray) : List Int := k :: plainL k n s
theorem val_small {k n : Int} {s : ByteArray} (h : valOk k n s = true) : s.size ≤ 32 ∧ 1 ≤ k ∧ k ≤ 5 := by
  unfold valOk at h
  split at h
  · rw [decide_eq_true_eq] at h; omega
  · split at h
    · rw [Bool.and_eq_true, decide_eq_true_eq] at h; omega
    · split at h
      · rw [Bool.and_eq_true, decide_eq_true_eq] at h; omega
      · split at h
        · rw [Bool.and_eq_true, decide_eq_true_eq] at h; omega
        · split at h
          · rw [Bool.and_eq_true, Bool.and_eq_true, decide_eq_true_eq] at h; omega
          · cases h
theorem esc_size (s : ByteArray) : (escL s).length ≤ 2 * s.size + 2 := by
  unfold escL
  have := esc_len s.data.toList
  have e := (Lib.size_eq s).symm
  rw [List.length_append, List.length_cons, List.length_cons, List.length_nil]
  omega
theorem plain_len (k n : Int) (s : ByteArray) (h : valOk k n s = true) : (plainL k n s).length ≤ 100 := by
  have hs := (val_small h).1
  have := esc_size s
  unfold plainL
  split
  · show (8 : Nat) ≤ 100; omega
  · split
    · show (8 : Nat) ≤ 100; omega
    · split
      · show (1 : Nat) ≤ 100; omega
      · omega

set_option maxHeartbeats 1000000 in
theorem plain_calls (k n : Int) (s : ByteArray) (w : World) (hn : isInt n) (hok : valOk k n s = true) (hM : MaxAt w) : Calls Tryz.prog 51 #[.agg #[.int .i64 k, .int .i64 n, .string s]] w (OutR (plainL k n s) w) := by
  have hB : Below w.heap.size w (w.alloc (.cells #[.int .i64 k, .int .i64 n, .string s] 23)) := (Below.refl _ _).alloc (Nat.le_refl _) _
  obtain ⟨hs, hk0, hk1⟩ := val_small hok
  have up : ∀ xs e w', OutR xs (w.alloc (.cells #[.int .i64 k, .int .i64 n, .string s] 23)) e w' → OutR xs w e w' := fun xs e w' h => by
    obtain ⟨A, m, cap, h1, h2, h3, h4⟩ := h
    exact ⟨A, m, cap, h1, h2, h3, hB.trans (h4.mono hB.size)⟩
  have UP := Lib.hid up
  clear up
  by_cases k1 : k = 1
  · subst k1
    have hx := xor_top (IntKind.u64.wrap n) (by rw [IntKind.wrap_u64]; omega) (by rw [IntKind.wrap_u64]; omega)
    have hx2 : bits .xor .u64 (IntKind.u64.wrap n) 9223372036854775808 = n + 9223372036854775808 := by
      obtain ⟨a, b⟩ := hn
      rw [hx, IntKind.wrap_u64]; omega
    obtain ⟨n0, n1⟩ := hn
    have hc := eight_calls (bits .xor .u64 (IntKind.u64.wrap n) 9223372036854775808) (w.alloc (.cells #[.int .i64 1, .int .i64 n, .string s] 23)) (by omega) (by omega)
    have e : plainL 1 n s = eightL (bits .xor .u64 (IntKind.u64.wrap n) 9223372036854775808) := by rw [hx2]; rfl
    have E := Lib.hid e
    have HC := Lib.hid hc
    clear hc e hx hx2
    go_enter Tryz.func51, Tryz.ntmps51
    go_wp2_with (go_at_call 69; refine HC.out.mono ?_; intro e w1 h1; obtain ⟨A, m, cap, rfl, hown, hb⟩ := UP.out _ _ _ h1.r)
    go_wp2
    go_ret
    rw [E.out]
    exact ⟨A, m, cap, rfl, hown, hb⟩
  by_cases k5 : k = 5
  · subst k5
    have hf : floatOk n = true := by simp [valOk] at hok; exact hok.2
    have hc := fbytes_calls n (w.alloc (.cells #[.int .i64 5, .int .i64 n, .string s] 23)) hn hf
    have HC := Lib.hid hc
    clear hc
    go_enter Tryz.func51, Tryz.ntmps51
    go_wp2_with (go_at_call 70; refine HC.out.mono ?_; intro e w1 h1; obtain ⟨A, m, cap, rfl, hown, hb⟩ := UP.out _ _ _ h1.r)
    go_wp2
    go_ret
    exact ⟨A, m, cap, rfl, hown, hb⟩
  by_cases k4 : k = 4
  · subst k4
    have hn2 : n = 0 ∨ n = 1 := by simp [valOk] at hok; exact hok.2
    have hw : IntKind.u8.wrap n = n := by rw [IntKind.wrap_u8]; omega
    have hown := own_bytes (w := w.alloc (.cells #[.int .i64 4, .int .i64 n, .string s] 23)) (base := w.heap.size) (cs := #[.int .u8 n]) (xs := [n]) rfl hB.size (by show (1 : Nat) ≤ 1000000; omega)
    rw [show (w.alloc (.cells #[.int .i64 4, .int .i64 n, .string s] 23)).heap.size = w.heap.size + 1 from by simp] at hown
    have HOWN := Lib.hid hown
    clear hown
    go_enter Tryz.func51, Tryz.ntmps51
    go_wp2
    go_ret
    exact ⟨_, 1, 1, rfl, HOWN.out.rd encB_len, (fun h => by cases h), hB.alloc hB.size _⟩
  · have hc := escaped_calls s (w.alloc (.cells #[.int .i64 k, .int .i64 n, .string s] 23)) (by omega) (hM.below hB)
    have e : plainL k n s = escL s := by unfold plainL; rw [if_neg k1, if_neg k5, if_neg k4]
    have E := Lib.hid e
    have HC := Lib.hid hc
    have HB := Lib.hid hB
    clear hc e hB hM
    go_enter Tryz.func51, Tryz.ntmps51
    go_wp2_with (go_at_call 71; refine HC.out.mono ?_; intro e w1 h1; obtain ⟨A, m, cap, rfl, hown, hb⟩ := UP.out _ _ _ h1)
    go_wp2
    go_ret
    rw [E.out]
    exact ⟨A, m, cap, rfl, hown, hb⟩
end Go.Proofs.YtonghiaocpenaaaGreatDoor
