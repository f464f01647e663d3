/-
  Saves of states into one file: what they leave, plain.
  A disk with a file of states, over a law's run.
  joistlaw11.alive.
  A disk with a file of states, that lies in a set of blocks.
-/
import Derived.Test.YtideokbaenkijaaMSave
import Derived.Test.YtideokbaenkijaaMRRight
namespace Go.Proofs.Ytideokbaenkijaa
open Go.RowKit

/-- A disk with a file of states alone, all of it lasting. -/
structure FileOf (L : Nat) (D : DiskD) (ss : List StateD) : Prop where
  clean : Clean L D (fileS ss)
  right : ∀ s ∈ ss, rightS s = true
  chain : Chain true firstS ss
  short : (fileS ss).length ≤ 2600
theorem file_new (L : Nat) : FileOf L ⟨[], [], L⟩ [] := ⟨clean_new L, by simp, trivial, by simp [fileS]⟩
theorem FileOf.read {L : Nat} {D : DiskD} {ss : List StateD} (h : FileOf L D ss) : bytesD D nM = fileS ss ∧ readS (fileS ss) = some (lastS firstS ss, (fileS ss).length) := ⟨h.clean.bytes, read_file h.right h.chain⟩
theorem frameL_bytes {x : List Int} (h : Bytes x) : Bytes (frameL x) := by
  unfold frameL
  refine bytes_app (bytes_app (vlq_bytes _) h) fun c hc => ?_
  unfold endL at hc
  simp only [List.mem_cons, List.not_mem_nil, or_false] at hc
  rcases hc with rfl | rfl | rfl | rfl <;> omega
theorem file_bytes (ss : List StateD) : Bytes (fileS ss) := by
  intro x hx
  unfold fileS at hx
  obtain ⟨s, _, h⟩ := List.mem_flatMap.1 hx
  exact frameL_bytes bytesS_bytes x h
theorem last_right : ∀ {ss : List StateD} {last : StateD}, ss ≠ [] → (∀ s ∈ ss, rightS s = true) → rightS (lastS last ss) = true := by
  intro ss last hne h
  unfold lastS
  cases hl : ss.getLast? with
  | none => exact absurd (List.getLast?_eq_none_iff.1 hl) hne
  | some s => exact h s (List.mem_of_getLast? hl)
/-- The states behind one more. -/
def moreS (ss : List StateD) (s : StateD) : List StateD := if 2048 ≤ (fileS ss).length then [s] else ss ++ [s]
theorem last_more (last : StateD) (ss : List StateD) (s : StateD) : lastS last (moreS ss s) = s := by
  unfold moreS
  split
  · rfl
  · exact last_snoc last ss s
theorem file_one (s : StateD) : fileS [s] = frameL (bytesS s) := by unfold fileS; simp
/-- May a state follow? -/
def fitsS (ss : List StateD) (s : StateD) : Bool := rightS s && (ss.isEmpty || decide (s.gen = (lastS firstS ss).gen + 1))
theorem save_file {L : Nat} {D D' : DiskD} {ss : List StateD} {s : StateD} {ev : Int} (h : FileOf L D ss) (hL : (fileS ss).length + (frameL (bytesS s)).length ≤ L) (hs : SaveR D nM s ev D') :
    (fitsS ss s = false ∧ ev = 10 ∧ D' = D) ∨ (fitsS ss s = true ∧ ev = 0 ∧ FileOf L D' (moreS ss s)) := by
  obtain ⟨hb, hr⟩ := h.read
  have hsh := h.short
  rcases hs with ⟨h1, h2, h3⟩ | ⟨h1, h2⟩
  · exact .inl ⟨by unfold fitsS; rw [h1]; rfl, h2, h3⟩
  rw [hb, hr] at h2
  have hfl := frame_len h1
  rcases h2 with ⟨h2, _⟩ | ⟨old, n, h2, h3⟩
  · cases h2
  injection h2 with h2
  injection h2 with h2 h2'
  subst h2 h2'
  have hbad : (0 < (lastS firstS ss).gen ∧ s.gen ≠ (lastS firstS ss).gen + 1) ↔ fitsS ss s = false := by
    unfold fitsS
    rw [h1, Bool.true_and]
    by_cases he : ss = []
    · subst he
      simp [lastS, firstS]
    · have := (right_iff.1 (last_right (last := firstS) he h.right)).g0
      have hie : ss.isEmpty = false := by cases ss <;> simp at he ⊢
      rw [hie, Bool.false_or, decide_eq_false_iff_not]
      exact ⟨fun h => h.2, fun h => ⟨by omega, h⟩⟩
  rcases h3 with ⟨g1, g2, g3, g4⟩ | ⟨g1, g2⟩
  · exact .inl ⟨hbad.1 ⟨g1, g2⟩, g3, g4⟩
  have hfit : fitsS ss s = true := by
    cases hf : fitsS ss s with
    | true => rfl
    | false => exact absurd (hbad.2 hf) g1
  refine .inr ⟨hfit, ?_⟩
  have hchain : Chain true firstS (ss ++ [s]) := by
    refine chain_snoc h.chain (fun _ => ?_) (fun h => by cases h)
    unfold fitsS at hfit
    simp only [Bool.and_eq_true, Bool.or_eq_true, decide_eq_true_eq, List.isEmpty_iff] at hfit
    exact hfit.2
  rcases g2 with ⟨g2, new, D1, rfl, hok, g3⟩ | ⟨g2, ⟨g3, _⟩ | ⟨_, new, g4⟩⟩
  · obtain ⟨w1, w2, w3⟩ := swap_one h.clean (xs := fileS ss) (ys := frameL (bytesS s)) (by intro e; rw [e] at g2; simp at g2) (by omega) new hok
    rcases g3 with ⟨g3, _⟩ | ⟨_, g3, g4⟩
    · exact absurd w1 g3
    refine ⟨g3.trans w2, ?_⟩
    subst g4
    have hm : moreS ss s = [s] := if_pos g2
    rw [hm]
    refine ⟨by rw [file_one]; exact w3, fun t ht => by rw [List.mem_singleton.1 ht]; exact h1, ⟨(fun h => by cases h), trivial⟩, by rw [file_one]; omega⟩
  · omega
  · obtain ⟨w1, w2, w3⟩ := write_one h.clean (ys := frameL (bytesS s)) (by omega) new
    rcases g4 with ⟨g3, _⟩ | ⟨_, g3, g4⟩
    · exact absurd w1 g3
    refine ⟨g3.trans w2, ?_⟩
    subst g4
    have hm : moreS ss s = ss ++ [s] := if_neg (by omega)
    rw [hm]
    refine ⟨by rw [file_snoc]; exact w3, fun t ht => ?_, hchain, by rw [file_snoc, List.length_append]; omega⟩
    rcases List.mem_append.1 ht with ht | ht
    · exact h.right t ht
    · rw [List.mem_singleton.1 ht]; exact h1
theorem frame_len2 {s : StateD} (h : rightS s = true) : (frameL (bytesS s)).length ≤ 9 * (4 + s.tabs.length) + 13 := by
  have k := right_iff.1 h
  have h1 : (bytesS s).length ≤ 9 * (4 + s.tabs.length) := vlqs_len (numsS s) _ (fun n hn => by
    unfold numsS at hn
    simp only [List.mem_cons] at hn
    rcases hn with rfl | rfl | rfl | rfl | hn
    · have := k.g1; omega
    · have := k.a1; omega
    · have := k.n1; omega
    · have := k.few; omega
    · have := k.high n hn; have := k.n1; omega) (by unfold numsS; simp only [List.length_cons]; omega)
  have h2 : (vlq (bytesS s).length).length ≤ 9 := vlq_small (by have := k.few; omega)
  unfold frameL
  rw [List.length_append, List.length_append, endL_len]
  omega
theorem crash_clean {L : Nat} {D : DiskD} {xs : List Int} (h : Clean L D xs) (k : Nat) : Clean L (D.crash k) xs := by
  have ho := h.loose
  refine ⟨h.limit, rfl, ?_⟩
  show (((crashed D.loose (D.files, k)).1.filter fun f => f.stays).map cutF = [] ∧ xs = []) ∨ ∃ id, ((crashed D.loose (D.files, k)).1.filter fun f => f.stays).map cutF = [⟨nM, id, xs, xs.length, true⟩]
  rw [ho]
  rcases h.files with ⟨h1, h2⟩ | ⟨id, h1⟩
  · rw [h1]; exact .inl ⟨rfl, h2⟩
  · rw [h1]; exact .inr ⟨id, by simp [crashed, cutF]⟩
theorem FileOf.crash {L : Nat} {D : DiskD} {ss : List StateD} (h : FileOf L D ss) (k : Nat) : FileOf L (D.crash k) ss := ⟨crash_clean h.clean k, h.right, h.chain, h.short⟩
end Go.Proofs.Ytideokbaenkijaa
namespace Go.Proofs.Ytideokbaenkijaa
open Go.RowKit

structure InvD (w w1 : World) (bd L : Nat) (ss : List StateD) (D : DiskD) : Prop where
  file : FileOf L D ss
  ok : D.Ok
  disk : DiskAt (fun k => w.heap.size ≤ k) w1 bd D
  below : Below w.heap.size w w1
/-- The law began at w; at w1 the disk has the states. -/
def Inv (w w1 : World) (bd L : Nat) (ss : List StateD) : Prop := ∃ D, InvD w w1 bd L ss D
theorem Inv.next {w w1 w2 : World} {bd L : Nat} {ss : List StateD} (h : Inv w w1 bd L ss) (hb : Below w1.heap.size w1 w2) : Inv w w2 bd L ss := by
  obtain ⟨D, h1, h2, h3, h4⟩ := h
  exact ⟨D, h1, h2, h3.below hb, h4.trans (hb.mono h4.size)⟩
theorem Inv.under {w w1 : World} {bd L : Nat} {ss : List StateD} (h : Inv w w1 bd L ss) : Below w.heap.size w w1 := by
  obtain ⟨D, h1, h2, h3, h4⟩ := h
  exact h4
theorem inv_new (n : Nat) (w : World) (hn : n ≤ 16777216) : Calls Try.prog 20 #[.int .i64 n] w fun e w' => ∃ bd, e = .returned (.tuple #[.pointer (some ⟨bd, 0, none⟩), .int .i64 0]) ∧ Inv w w' bd n [] := by
  refine (new_calls n w hn).mono ?_
  rintro e w' ⟨bd, rfl, hd, hb⟩
  exact ⟨bd, rfl, _, file_new n, ok_new n hn, hd, hb⟩
theorem out_of {S : Nat → Prop} {w w1 w2 : World} (hb : Below w.heap.size w w1) (hS : ∀ k, S k → w.heap.size ≤ k) (ho : Only S w1 w2) : Below w.heap.size w w2 := hb.trans (ho.below hb.size hS)
theorem inv_save {w w1 : World} {bd L : Nat} {ss : List StateD} (h : Inv w w1 bd L ss) (s : StateD) (T : Option Addr) (k c : Nat) (ht : RdN w1 T k s.tabs) (hT : T = none → c = 0) (hk : k ≤ 1000000000) (hL : rightS s = true → (fileS ss).length + (frameL (bytesS s)).length ≤ L) :
    Calls Try.prog 21 #[.pointer (some ⟨bd, 0, none⟩), .string nM, s.v T k c] w1 fun e w' => e = .returned (.int .i64 (if fitsS ss s then 0 else 10)) ∧ Inv w w' bd L (if fitsS ss s then moreS ss s else ss) := by
  obtain ⟨D, h1, h2, h3, h4⟩ := h
  have hb := h1.read.1
  have hsm := h1.clean.small
  have hsh := h1.short
  refine (save_calls (fun k => w.heap.size ≤ k) bd D nM s T k c w1 h3 h2 (by decide) ht hT hk (by rw [hb]; exact file_bytes ss) (by rw [hb]; omega) (by omega) (by omega)).mono ?_
  rintro e w' ⟨ev, D', rfl, hs, hok, hd, ho⟩
  have hd' : DiskAt (fun k => w.heap.size ≤ k) w' bd D' := hd.mono fun k hk => hk.elim id fun h => Nat.le_trans h4.size h
  have hbl := out_of h4 (fun k h => h) ho
  cases hr : rightS s with
  | false =>
    have hf : fitsS ss s = false := by unfold fitsS; rw [hr]; rfl
    rcases hs with ⟨_, rfl, rfl⟩ | ⟨hx, _⟩
    · rw [hf]; exact ⟨rfl, _, h1, hok, hd', hbl⟩
    · rw [hr] at hx; cases hx
  | true =>
    rcases save_file h1 (hL hr) hs with ⟨hf, rfl, rfl⟩ | ⟨hf, rfl, hF⟩
    · rw [hf]; exact ⟨rfl, _, h1, hok, hd', hbl⟩
    · rw [hf]; exact ⟨rfl, _, hF, hok, hd', hbl⟩
theorem inv_yes {w w1 : World} {bd L : Nat} {ss : List StateD} (h : Inv w w1 bd L ss) (s : StateD) (hf : fitsS ss s = true) (T : Option Addr) (k c : Nat) (ht : RdN w1 T k s.tabs) (hT : T = none → c = 0) (hk : k ≤ 1000000000) (hL : rightS s = true → (fileS ss).length + (frameL (bytesS s)).length ≤ L) :
    Calls Try.prog 21 #[.pointer (some ⟨bd, 0, none⟩), .string nM, s.v T k c] w1 fun e w' => e = .returned (.int .i64 0) ∧ Inv w w' bd L (moreS ss s) := by
  have := inv_save h s T k c ht hT hk hL
  simpa only [hf, if_true] using this
theorem inv_no {w w1 : World} {bd L : Nat} {ss : List StateD} (h : Inv w w1 bd L ss) (s : StateD) (hf : fitsS ss s = false) (T : Option Addr) (k c : Nat) (ht : RdN w1 T k s.tabs) (hT : T = none → c = 0) (hk : k ≤ 1000000000) (hL : rightS s = true → (fileS ss).length + (frameL (bytesS s)).length ≤ L) :
    Calls Try.prog 21 #[.pointer (some ⟨bd, 0, none⟩), .string nM, s.v T k c] w1 fun e w' => e = .returned (.int .i64 10) ∧ Inv w w' bd L ss := by
  have := inv_save h s T k c ht hT hk hL
  simpa only [hf, if_false, Bool.false_eq_true] using this
theorem inv_load {w w1 : World} {bd L : Nat} {ss : List StateD} (h : Inv w w1 bd L ss) :
    Calls Try.prog 23 #[.pointer (some ⟨bd, 0, none⟩), .string nM] w1 fun e w' => (∃ B k c, e = .returned (.tuple #[(lastS firstS ss).v B k c, .int .i64 0]) ∧ RdN w' B k (lastS firstS ss).tabs ∧ (B = none → c = 0) ∧ k ≤ 50) ∧ Below w1.heap.size w1 w' := by
  obtain ⟨D, h1, h2, h3, h4⟩ := h
  obtain ⟨hb, hr⟩ := h1.read
  have hsh := h1.short
  refine (load_calls _ bd D nM w1 h3 h2 (by decide) (by rw [hb]; exact file_bytes ss) (by rw [hb]; omega)).mono ?_
  rw [hb]
  rintro e w' ⟨hbl, ⟨hn, _⟩ | ⟨s, m, B, k, c, hs, rfl, h5, h6, h7, _⟩⟩
  · rw [hr] at hn; cases hn
  · rw [hr] at hs
    injection hs with hs
    injection hs with hs _
    subst hs
    exact ⟨⟨B, k, c, rfl, h5, h6, h7⟩, hbl⟩
theorem inv_crash {w w1 : World} {bd L : Nat} {ss : List StateD} (h : Inv w w1 bd L ss) (keep : Int) (h0 : -9223372036854775808 ≤ keep) (h9 : keep < 9223372036854775808) :
    Calls Try.prog 27 #[.pointer (some ⟨bd, 0, none⟩), .int .i64 keep] w1 fun e w' => e = .returned (.tuple #[]) ∧ Inv w w' bd L ss := by
  obtain ⟨D, h1, h2, h3, h4⟩ := h
  have hsm := h1.clean.small
  refine (crash_calls _ bd D keep w1 h3 h2 (by omega) h0 h9).mono ?_
  rintro e w' ⟨rfl, hd, ho⟩
  exact ⟨rfl, _, h1.crash _, h2.crash _, hd.mono fun k hk => hk.elim id fun h => Nat.le_trans h4.size h, out_of h4 (fun k h => h) ho⟩
theorem inv_size {w w1 : World} {bd L : Nat} {ss : List StateD} (h : Inv w w1 bd L ss) :
    Calls Try.prog 22 #[.pointer (some ⟨bd, 0, none⟩)] w1 fun e w' => e = .returned (.int .i64 (fileS ss).length) ∧ Inv w w' bd L ss := by
  obtain ⟨D, h1, h2, h3, h4⟩ := h
  refine (size_calls _ bd D w1 h3 h2).mono ?_
  rintro e w' ⟨rfl, hb⟩
  exact ⟨by rw [h1.clean.size], (show Inv w w1 bd L ss from ⟨D, h1, h2, h3, h4⟩).next hb⟩
theorem inv_loose {w w1 : World} {bd L : Nat} {ss : List StateD} (h : Inv w w1 bd L ss) :
    Calls Try.prog 25 #[.pointer (some ⟨bd, 0, none⟩)] w1 fun e w' => e = .returned (.int .i64 0) ∧ Inv w w' bd L ss := by
  obtain ⟨D, h1, h2, h3, h4⟩ := h
  have hsm := h1.clean.small
  refine (loose_calls _ bd D w1 h3 h2 (by omega)).mono ?_
  rintro e w' ⟨rfl, hb⟩
  exact ⟨by rw [h1.clean.loose]; rfl, (show Inv w w1 bd L ss from ⟨D, h1, h2, h3, h4⟩).next hb⟩
end Go.Proofs.Ytideokbaenkijaa
namespace Go.Proofs.Ytideokbaenkijaa
open Go.RowKit

def al1 : StateD := ⟨1, 2, 3, [2, 1]⟩
def al2 : StateD := ⟨2, 5, 4, [3]⟩
def al3 : StateD := ⟨2, 5, 4, []⟩
theorem al1_right : rightS al1 = true := by decide
theorem al2_right : rightS al2 = true := by decide
theorem al1_len : (frameL (bytesS al1)).length ≤ 67 := frame_len2 al1_right
theorem al2_len : (frameL (bytesS al2)).length ≤ 58 := frame_len2 al2_right
theorem al_one : moreS [] al1 = [al1] := rfl
theorem al_two : moreS [al1] al2 = [al1, al2] := if_neg (by rw [file_one]; have := al1_len; omega)
theorem al_fits1 : fitsS [] al1 = true := by decide
theorem al_fits2 : fitsS [al1] al2 = true := by decide
theorem al_fits3 : fitsS [al1, al2] al3 = false := by decide
theorem al_len2 : (fileS [al1, al2]).length ≤ 125 := by
  have h : fileS [al1, al2] = frameL (bytesS al1) ++ frameL (bytesS al2) := by unfold fileS; simp
  rw [h, List.length_append]
  have := al1_len; have := al2_len; omega
theorem lit_ints {w : World} {cs : Array Value} (xs : List Int) (hx : cs.toList = xs.map (Value.int .i64)) (hs : xs.length ≤ 1000000) : RdN (w.alloc (.cells cs 3)) (some ⟨w.heap.size, 0, none⟩) xs.length xs :=
  (own_ints (base := 0) hx (Nat.zero_le _) hs).rd encN_len
set_option maxHeartbeats 1000000 in
set_option maxRecDepth 20000 in
theorem alive_calls (w : World) : Calls Try.prog 7 #[] w fun e w' => e = .returned (.bool true) ∧ Below w.heap.size w w' := by
  have HN := Lib.hid (inv_new 500 w (by decide))
  go_enter Try.func7, Try.ntmps7
  go_wp2_with fail
  refine HN.out.mono ?_
  rintro e w1 ⟨bd, rfl, hi⟩
  have hb1 : Below w1.heap.size w1 (w1.alloc (.cells #[.int .i64 2, .int .i64 1] 3)) := (Below.refl _ _).alloc (Nat.le_refl _) _
  have HS := Lib.hid (inv_yes (hi.next hb1) al1 al_fits1 (some ⟨w1.heap.size, 0, none⟩) 2 2 (lit_ints [2, 1] rfl (by decide)) (fun e => by cases e) (by decide) (fun _ => by have := al1_len; show 0 + _ ≤ _; omega))
  rw [al_one] at HS
  clear hi hb1 HN
  go_wp2_with fail
  refine HS.out.mono ?_
  rintro e w2 ⟨rfl, hi⟩
  have hb1 : Below w2.heap.size w2 (w2.alloc (.cells #[.int .i64 3] 3)) := (Below.refl _ _).alloc (Nat.le_refl _) _
  have HS2 := Lib.hid (inv_yes (hi.next hb1) al2 al_fits2 (some ⟨w2.heap.size, 0, none⟩) 1 1 (lit_ints [3] rfl (by decide)) (fun e => by cases e) (by decide) (fun _ => by have := al1_len; have := al2_len; rw [file_one]; omega))
  rw [al_two] at HS2
  clear hi hb1 HS
  go_wp2_with fail
  refine HS2.out.mono ?_
  rintro e w3 ⟨rfl, hi⟩
  have HS3 := Lib.hid (inv_no hi al3 al_fits3 none 0 0 (Rd.nil _ _ _ _) (fun _ => rfl) (by decide) (fun _ => by have := al_len2; have h3 : (frameL (bytesS al3)).length ≤ 49 := frame_len2 (by decide); omega))
  clear hi HS2
  go_wp2_with fail
  refine HS3.out.mono ?_
  rintro e w4 ⟨rfl, hi⟩
  have HC := Lib.hid (inv_crash hi 0 (by decide) (by decide))
  clear hi HS3
  go_wp2_with fail
  refine HC.out.mono ?_
  rintro e w5 ⟨rfl, hi⟩
  have HL := Lib.hid (inv_load hi)
  have HI := Lib.hid hi.under
  rw [show lastS firstS [al1, al2] = al2 from rfl] at HL
  clear hi HC
  go_wp2_with fail
  refine HL.out.mono ?_
  rintro e w6 ⟨⟨B, k, c, rfl, hr, _, _⟩, hb⟩
  have HB := Lib.hid (HI.out.trans (hb.mono HI.out.size))
  have hk : k = 1 := hr.len
  subst hk
  clear hb hr HL
  go_wp2_with fail
  go_ret
  exact ⟨rfl, HB.out.alloc HB.out.size _⟩
end Go.Proofs.Ytideokbaenkijaa
namespace Go.Proofs.Ytideokbaenkijaa
open Go.RowKit

def InvS (S : Nat → Prop) (w1 : World) (bd L : Nat) (ss : List StateD) : Prop := ∃ D, FileOf L D ss ∧ D.Ok ∧ DiskAt S w1 bd D
theorem InvS.below {S : Nat → Prop} {w1 w2 : World} {bd L : Nat} {ss : List StateD} (h : InvS S w1 bd L ss) (hb : Below w1.heap.size w1 w2) : InvS S w2 bd L ss := by
  obtain ⟨D, h1, h2, h3⟩ := h
  exact ⟨D, h1, h2, h3.below hb⟩
theorem InvS.only {S T : Nat → Prop} {w1 w2 : World} {bd L : Nat} {ss : List StateD} (h : InvS S w1 bd L ss) (ho : Only T w1 w2) (hT : ∀ k, S k → ¬ T k) : InvS S w2 bd L ss := by
  obtain ⟨D, h1, h2, h3⟩ := h
  exact ⟨D, h1, h2, h3.only ho hT⟩
theorem InvS.mono {S T : Nat → Prop} {w1 : World} {bd L : Nat} {ss : List StateD} (h : InvS S w1 bd L ss) (hT : ∀ k, S k → T k) : InvS T w1 bd L ss := by
  obtain ⟨D, h1, h2, h3⟩ := h
  exact ⟨D, h1, h2, h3.mono hT⟩
/-- What lies may be said of what lies already alone. -/
theorem InvS.tight {S : Nat → Prop} {w1 : World} {bd L : Nat} {ss : List StateD} (h : InvS S w1 bd L ss) : InvS (fun k => S k ∧ k < w1.heap.size) w1 bd L ss := by
  obtain ⟨D, h1, h2, h3⟩ := h
  exact ⟨D, h1, h2, h3.tight⟩
theorem invS_new (n : Nat) (w : World) (hn : n ≤ 16777216) : Calls Try.prog 20 #[.int .i64 n] w fun e w' => ∃ bd, e = .returned (.tuple #[.pointer (some ⟨bd, 0, none⟩), .int .i64 0]) ∧ InvS (fun k => w.heap.size ≤ k) w' bd n [] ∧ Below w.heap.size w w' := by
  refine (new_calls n w hn).mono ?_
  rintro e w' ⟨bd, rfl, hd, hb⟩
  exact ⟨bd, rfl, ⟨_, file_new n, ok_new n hn, hd⟩, hb⟩
theorem invS_save {S : Nat → Prop} {w1 : World} {bd L : Nat} {ss : List StateD} (h : InvS S w1 bd L ss) (s : StateD) (T : Option Addr) (k c : Nat) (ht : RdN w1 T k s.tabs) (hT : T = none → c = 0) (hk : k ≤ 1000000000) (hL : rightS s = true → (fileS ss).length + (frameL (bytesS s)).length ≤ L) :
    Calls Try.prog 21 #[.pointer (some ⟨bd, 0, none⟩), .string nM, s.v T k c] w1 fun e w' => (fitsS ss s = false → e = .returned (.int .i64 10) ∧ InvS (Plus S w1.heap.size) w' bd L ss) ∧ (fitsS ss s = true → e = .returned (.int .i64 0) ∧ InvS (Plus S w1.heap.size) w' bd L (moreS ss s)) ∧ Only S w1 w' := by
  obtain ⟨D, h1, h2, h3⟩ := h
  have hb := h1.read.1
  have hsm := h1.clean.small
  have hsh := h1.short
  refine (save_calls S bd D nM s T k c w1 h3 h2 (by decide) ht hT hk (by rw [hb]; exact file_bytes ss) (by rw [hb]; omega) (by omega) (by omega)).mono ?_
  rintro e w' ⟨ev, D', rfl, hs, hok, hd, ho⟩
  cases hr : rightS s with
  | false =>
    have hf : fitsS ss s = false := by unfold fitsS; rw [hr]; rfl
    rcases hs with ⟨_, rfl, rfl⟩ | ⟨hx, _⟩
    · exact ⟨fun _ => ⟨rfl, _, h1, hok, hd⟩, (fun h => by rw [hf] at h; cases h), ho⟩
    · rw [hr] at hx; cases hx
  | true =>
    rcases save_file h1 (hL hr) hs with ⟨hf, rfl, rfl⟩ | ⟨hf, rfl, hF⟩
    · exact ⟨fun _ => ⟨rfl, _, h1, hok, hd⟩, (fun h => by rw [hf] at h; cases h), ho⟩
    · exact ⟨(fun h => by rw [hf] at h; cases h), fun _ => ⟨rfl, _, hF, hok, hd⟩, ho⟩
theorem invS_yes {S : Nat → Prop} {w1 : World} {bd L : Nat} {ss : List StateD} (h : InvS S w1 bd L ss) (s : StateD) (hf : fitsS ss s = true) (T : Option Addr) (k c : Nat) (ht : RdN w1 T k s.tabs) (hT : T = none → c = 0) (hk : k ≤ 1000000000) (hL : (fileS ss).length + (frameL (bytesS s)).length ≤ L) :
    Calls Try.prog 21 #[.pointer (some ⟨bd, 0, none⟩), .string nM, s.v T k c] w1 fun e w' => e = .returned (.int .i64 0) ∧ InvS (Plus S w1.heap.size) w' bd L (moreS ss s) ∧ Only S w1 w' :=
  (invS_save h s T k c ht hT hk fun _ => hL).mono fun _ _ ⟨_, h2, h3⟩ => ⟨(h2 hf).1, (h2 hf).2, h3⟩
theorem invS_no {S : Nat → Prop} {w1 : World} {bd L : Nat} {ss : List StateD} (h : InvS S w1 bd L ss) (s : StateD) (hf : fitsS ss s = false) (T : Option Addr) (k c : Nat) (ht : RdN w1 T k s.tabs) (hT : T = none → c = 0) (hk : k ≤ 1000000000) (hL : rightS s = true → (fileS ss).length + (frameL (bytesS s)).length ≤ L) :
    Calls Try.prog 21 #[.pointer (some ⟨bd, 0, none⟩), .string nM, s.v T k c] w1 fun e w' => e = .returned (.int .i64 10) ∧ InvS (Plus S w1.heap.size) w' bd L ss ∧ Only S w1 w' :=
  (invS_save h s T k c ht hT hk hL).mono fun _ _ ⟨h2, _, h3⟩ => ⟨(h2 hf).1, (h2 hf).2, h3⟩
theorem invS_load {S : Nat → Prop} {w1 : World} {bd L : Nat} {ss : List StateD} (h : InvS S w1 bd L ss) :
    Calls Try.prog 23 #[.pointer (some ⟨bd, 0, none⟩), .string nM] w1 fun e w' => (∃ B k c, e = .returned (.tuple #[(lastS firstS ss).v B k c, .int .i64 0]) ∧ RdN w' B k (lastS firstS ss).tabs ∧ (B = none → c = 0) ∧ k ≤ 50) ∧ Below w1.heap.size w1 w' := by
  obtain ⟨D, h1, h2, h3⟩ := h
  obtain ⟨hb, hr⟩ := h1.read
  have hsh := h1.short
  refine (load_calls _ bd D nM w1 h3 h2 (by decide) (by rw [hb]; exact file_bytes ss) (by rw [hb]; omega)).mono ?_
  rw [hb]
  rintro e w' ⟨hbl, ⟨hn, _⟩ | ⟨s, m, B, k, c, hs, rfl, h5, h6, h7, _⟩⟩
  · rw [hr] at hn; cases hn
  · rw [hr] at hs
    injection hs with hs
    injection hs with hs _
    subst hs
    exact ⟨⟨B, k, c, rfl, h5, h6, h7⟩, hbl⟩
theorem invS_size {S : Nat → Prop} {w1 : World} {bd L : Nat} {ss : List StateD} (h : InvS S w1 bd L ss) :
    Calls Try.prog 22 #[.pointer (some ⟨bd, 0, none⟩)] w1 fun e w' => e = .returned (.int .i64 (fileS ss).length) ∧ Below w1.heap.size w1 w' := by
  obtain ⟨D, h1, h2, h3⟩ := h
  refine (size_calls _ bd D w1 h3 h2).mono ?_
  rintro e w' ⟨rfl, hb⟩
  exact ⟨by rw [h1.clean.size], hb⟩
theorem invS_loose {S : Nat → Prop} {w1 : World} {bd L : Nat} {ss : List StateD} (h : InvS S w1 bd L ss) :
    Calls Try.prog 25 #[.pointer (some ⟨bd, 0, none⟩)] w1 fun e w' => e = .returned (.int .i64 0) ∧ Below w1.heap.size w1 w' := by
  obtain ⟨D, h1, h2, h3⟩ := h
  have hsm := h1.clean.small
  refine (loose_calls _ bd D w1 h3 h2 (by omega)).mono ?_
  rintro e w' ⟨rfl, hb⟩
  exact ⟨by rw [h1.clean.loose]; rfl, hb⟩
theorem invS_read {S : Nat → Prop} {w1 : World} {bd L : Nat} {ss : List StateD} (h : InvS S w1 bd L ss) (hne : ss ≠ []) :
    Calls Try.prog 26 #[.pointer (some ⟨bd, 0, none⟩), .string nM] w1 fun e w' => (∃ v, e = .returned (.tuple #[v, .bool true]) ∧ Bs w' v w1.heap.size (fileS ss)) ∧ Below w1.heap.size w1 w' := by
  obtain ⟨D, h1, h2, h3⟩ := h
  have hb := h1.read.1
  refine (read_calls _ bd D nM w1 h3 h2 (by decide)).mono ?_
  rintro e w' ⟨⟨v, rfl, hv⟩, hbl⟩
  have hv2 : Bs w' v w1.heap.size (bytesD D nM) := hv
  rw [hb] at hv2
  have hs : (findD D.files nM).isSome = true := by
    rcases h1.clean.files with ⟨_, h5⟩ | ⟨id, h5⟩
    · cases ss with
      | nil => exact absurd rfl hne
      | cons s ss => exact absurd (List.append_eq_nil_iff.1 (show frameL (bytesS s) ++ fileS ss = [] by rw [← h5]; unfold fileS; rw [List.flatMap_cons])).1 (fun e => frame_ne (bytesS s) [] (by rw [e]; rfl))
    · rw [h5]; simp [findD]
  rw [hs]
  exact ⟨⟨v, rfl, hv2⟩, hbl⟩
end Go.Proofs.Ytideokbaenkijaa
