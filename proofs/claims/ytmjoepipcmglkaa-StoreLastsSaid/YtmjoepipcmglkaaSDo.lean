/-
  The law package's do.
-/
import Derived.Test.YtmjoepipcmglkaaSCrashW
namespace Go.Proofs.Ytmjoepipcmglkaa
open Go.RowKit Go.Maps

/-- Something that is done to a disk. -/
structure CallD where
  what : Int
  name : ByteArray
  to : ByteArray
  A : Option Addr
  m : Nat
  cm : Nat
  xs : List Int
  n : Int
def CallD.l (c : CallD) : List Value := [.int .i64 c.what, .string c.name, .string c.to, .slice c.A c.m c.cm, .int .i64 c.n]
theorem CallD.l_len (c : CallD) : c.l.length = 5 := rfl
abbrev CallD.cells (c : CallD) : Array Value := #[.int .i64 c.what, .string c.name, .string c.to, .slice c.A c.m c.cm, .int .i64 c.n]
abbrev CallD.v (c : CallD) : Value := .agg #[.int .i64 c.what, .string c.name, .string c.to, .slice c.A c.m c.cm, .int .i64 c.n]
/-- Its data may be read, its numbers are ints. -/
structure CallOk (w : World) (c : CallD) : Prop where
  rd : RdB w c.A c.m c.xs
  nil : c.A = none → c.cm = 0
  few : c.m ≤ 1000000000
  name : c.name.size ≤ maxLen
  to : c.to.size ≤ maxLen
  low : -9223372036854775808 ≤ c.n
  high : c.n < 9223372036854775808
theorem CallOk.below {w w' : World} {c : CallD} (h : CallOk w c) (hb : Below w.heap.size w w') : CallOk w' c := ⟨h.rd.below hb, h.nil, h.few, h.name, h.to, h.low, h.high⟩
theorem CallOk.only {w w' : World} {c : CallD} {S : Nat → Prop} (h : CallOk w c) (ho : Only S w w') (hS : ∀ a, c.A = some a → ¬ S a.block) : CallOk w' c := ⟨h.rd.only ho hS, h.nil, h.few, h.name, h.to, h.low, h.high⟩

def DiskD.doC (D : DiskD) (c : CallD) (new : Nat) : DiskD :=
  if c.what = 0 then D.write c.name c.xs new else if c.what = 1 then D.sync c.name else if c.what = 2 then D.remove c.name else if c.what = 3 then D.rename c.name c.to else if c.what = 4 then D.crash c.n.toNat else D
def doE (D : DiskD) (c : CallD) : Int :=
  if c.what = 0 then writeE D c.name c.xs.length else if c.what = 1 then goneE D.files c.name else if c.what = 2 then goneE D.files c.name else if c.what = 3 then renameE D.files c.name c.to else 0
/-- Behind a call. -/
def DoOut (S : Nat → Prop) (w : World) (bd : Nat) (D : DiskD) (c : CallD) (e : Ending) (w' : World) : Prop :=
  e = .returned (.int .i64 (doE D c)) ∧ (∃ new, (D.doC c new).Ok ∧ DiskAt (Plus S w.heap.size) w' bd (D.doC c new)) ∧ Only S w w'
theorem plus_more {S : Nat → Prop} {a b : Nat} (h : b ≤ a) : ∀ k, Plus S a k → Plus S b k := fun _ hk => hk.imp id fun h2 => Nat.le_trans h h2

set_option maxHeartbeats 2000000 in
set_option maxRecDepth 20000 in
theorem do_calls (S : Nat → Prop) (bd : Nat) (D : DiskD) (c : CallD) (w : World) (h : DiskAt S w bd D) (hok : D.Ok) (hc : CallOk w c) (hl : D.loose.length ≤ 1000000) (hfl : D.files.length ≤ 1000000) :
    Calls Try.prog 12 #[.pointer (some ⟨bd, 0, none⟩), c.v] w (DoOut S w bd D c) := by
  obtain ⟨hb, cv⟩ := one_box w c.cells 34
  have e0 := cv 0 _ rfl
  have e1 := cv 1 _ rfl
  have e2 := cv 2 _ rfl
  have e3 := cv 3 _ rfl
  have e4 := cv 4 _ rfl
  have h1 := h.below hb
  have hc1 := hc.below hb
  have HW := Lib.hid (write_calls S bd D c.name c.A c.m c.cm c.xs _ h1 hok hc1.rd hc1.nil hl hfl hc.name hc.few)
  have HS := Lib.hid (sync_calls S bd D c.name _ h1 hok hl hc.name)
  have HR := Lib.hid (remove_calls S bd D c.name _ h1 hok hl hc.name)
  have HN := Lib.hid (rename_calls S bd D c.name c.to _ h1 hok hl hfl hc.name hc.to)
  have HC := Lib.hid (crash_calls S bd D c.n _ h1 hok hl hc.low hc.high)
  have HB := Lib.hid hb
  have HD := Lib.hid h1
  have HOK := Lib.hid hok
  have hsz := hb.size
  have HZ := Lib.hid hsz
  clear hb cv h h1 hc hc1 hok hsz
  obtain ⟨what, name, to, A, m, cm, xs, n⟩ := c
  dsimp only at *
  by_cases k0 : what = 0
  · subst k0
    go_enter Try.func12, Try.ntmps12
    go_wp2_with fail
    refine HW.out.mono ?_
    rintro e w2 ⟨rfl, ⟨new, o1, o2⟩, o3⟩
    have HO : Hid (DoOut S w bd D ⟨0, name, to, A, m, cm, xs, n⟩ (.returned (.int .i64 (writeE D name xs.length))) w2) := ⟨rfl, ⟨new, o1, o2.mono (plus_more HZ.out)⟩, (HB.out.only S).trans o3⟩
    clear o1 o2 o3 HW HS HR HN HC e0 e1 e2 e3 e4
    go_wp2
    go_ret
    exact HO.out
  by_cases k1 : what = 1
  · subst k1
    go_enter Try.func12, Try.ntmps12
    go_wp2_with fail
    refine HS.out.mono ?_
    rintro e w2 ⟨rfl, o2, o3⟩
    have HO : Hid (DoOut S w bd D ⟨1, name, to, A, m, cm, xs, n⟩ (.returned (.int .i64 (goneE D.files name))) w2) := ⟨rfl, ⟨0, HOK.out.sync name, o2.mono fun k hk => .inl hk⟩, (HB.out.only S).trans o3⟩
    clear o2 o3 HW HS HR HN HC e0 e1 e2 e3 e4
    go_wp2
    go_ret
    exact HO.out
  by_cases k2 : what = 2
  · subst k2
    go_enter Try.func12, Try.ntmps12
    go_wp2_with fail
    refine HR.out.mono ?_
    rintro e w2 ⟨rfl, o2, o3⟩
    have HO : Hid (DoOut S w bd D ⟨2, name, to, A, m, cm, xs, n⟩ (.returned (.int .i64 (goneE D.files name))) w2) := ⟨rfl, ⟨0, HOK.out.remove name, o2.mono fun k hk => .inl hk⟩, (HB.out.only S).trans o3⟩
    clear o2 o3 HW HS HR HN HC e0 e1 e2 e3 e4
    go_wp2
    go_ret
    exact HO.out
  by_cases k3 : what = 3
  · subst k3
    go_enter Try.func12, Try.ntmps12
    go_wp2_with fail
    refine HN.out.mono ?_
    rintro e w2 ⟨rfl, o2, o3⟩
    have HO : Hid (DoOut S w bd D ⟨3, name, to, A, m, cm, xs, n⟩ (.returned (.int .i64 (renameE D.files name to))) w2) := ⟨rfl, ⟨0, HOK.out.rename name to, o2.mono fun k hk => .inl hk⟩, (HB.out.only S).trans o3⟩
    clear o2 o3 HW HS HR HN HC e0 e1 e2 e3 e4
    go_wp2
    go_ret
    exact HO.out
  by_cases k4 : what = 4
  · subst k4
    go_enter Try.func12, Try.ntmps12
    go_wp2_with fail
    refine HC.out.mono ?_
    rintro e w2 ⟨rfl, o2, o3⟩
    have HO : Hid (DoOut S w bd D ⟨4, name, to, A, m, cm, xs, n⟩ (.returned (.int .i64 0)) w2) := ⟨rfl, ⟨0, HOK.out.crash _, o2.mono (plus_more HZ.out)⟩, (HB.out.only S).trans o3⟩
    clear o2 o3 HW HS HR HN HC e0 e1 e2 e3 e4
    go_wp2
    go_ret
    exact HO.out
  have HO : Hid (DoOut S w bd D ⟨what, name, to, A, m, cm, xs, n⟩ (.returned (.int .i64 0)) (w.alloc (.cells #[.int .i64 what, .string name, .string to, .slice A m cm, .int .i64 n] 34))) := by
    have ed : D.doC ⟨what, name, to, A, m, cm, xs, n⟩ 0 = D := by unfold DiskD.doC; rw [if_neg k0, if_neg k1, if_neg k2, if_neg k3, if_neg k4]
    refine ⟨by unfold doE; rw [if_neg k0, if_neg k1, if_neg k2, if_neg k3], ⟨0, by rw [ed]; exact HOK.out, by rw [ed]; exact HD.out.mono fun k hk => .inl hk⟩, HB.out.only S⟩
  have k0' : (what == 0) = false := by simpa using k0
  have k1' : (what == 1) = false := by simpa using k1
  have k2' : (what == 2) = false := by simpa using k2
  have k3' : (what == 3) = false := by simpa using k3
  have k4' : (what == 4) = false := by simpa using k4
  clear HW HS HR HN HC k0 k1 k2 k3 k4
  go_enter Try.func12, Try.ntmps12
  go_wp2
  go_ret
  exact HO.out
end Go.Proofs.Ytmjoepipcmglkaa
