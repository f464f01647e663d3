/-
  Frames with a sum, a manifest's states: plain.
-/
import Derived.Test.YtideokbaenkijaaMTake
namespace Go.Proofs.Ytideokbaenkijaa
open Go.RowKit

/-- A number's bytes are self-ending. -/
theorem take_vlq : ∀ (f n k acc : Nat) (r : List Int), k + f = 9 → n < 128 ^ f → (k = 0 ∨ 0 < n) → takeV k acc (vlq n ++ r) = some (acc + n * 128 ^ k, r)
  | 0, n, k, acc, r, hk, hn, h0 => by
    exfalso
    have : n = 0 := by simpa using hn
    omega
  | f + 1, n, k, acc, r, hk, hn, h0 => by
    by_cases hlt : 127 < n
    · rw [vlq_more hlt, List.cons_append, takeV, if_neg (by omega), if_pos (by omega)]
      have e : (((n % 128 + 128 : Nat) : Int) % 128).toNat = n % 128 := by omega
      rw [e, take_vlq f (n / 128) (k + 1) _ r (by omega) (by rw [Nat.div_lt_iff_lt_mul (by omega), ← Nat.pow_succ]; exact hn) (.inr (by omega))]
      congr 2
      have h2 := Nat.div_add_mod n 128
      have h3 : n * 128 ^ k = (128 * (n / 128)) * 128 ^ k + (n % 128) * 128 ^ k := by rw [← Nat.add_mul, h2]
      have h4 : n / 128 * 128 ^ (k + 1) = (128 * (n / 128)) * 128 ^ k := by rw [Nat.pow_succ, Nat.mul_comm 128 (n / 128), Nat.mul_assoc, Nat.mul_comm (128 ^ k) 128]
      omega
    · rw [vlq_last hlt]
      show takeV k acc ((n : Int) :: r) = _
      rw [takeV, if_neg (by omega), if_neg (by omega), if_neg (by omega)]
      simp
theorem take_num {n : Nat} (h : n < 9223372036854775808) (r : List Int) : takeV 0 0 (vlq n ++ r) = some (n, r) := by
  have h8 : (128 : Nat) ^ 9 = 9223372036854775808 := by decide
  have := take_vlq 9 n 0 0 r rfl (by rw [h8]; exact h) (.inl rfl)
  simpa using this
theorem take_less : ∀ (xs : List Int) (i acc : Nat) {v : Nat} {r : List Int}, takeV i acc xs = some (v, r) → r.length < xs.length ∧ ∃ p, p ++ r = xs
  | [], i, acc, v, r, h => by simp [takeV] at h
  | c :: xs, i, acc, v, r, h => by
    rw [takeV] at h
    by_cases h9 : 9 ≤ i
    · rw [if_pos h9] at h; cases h
    · rw [if_neg h9] at h
      by_cases h128 : 128 ≤ c
      · rw [if_pos h128] at h
        obtain ⟨h1, p, h2⟩ := take_less xs _ _ h
        exact ⟨by rw [List.length_cons]; omega, c :: p, by rw [List.cons_append, h2]⟩
      · rw [if_neg h128] at h
        by_cases h0 : 0 < i ∧ c = 0
        · rw [if_pos h0] at h; cases h
        · rw [if_neg h0] at h
          injection h with h; injection h with h1 h2
          subst h2
          exact ⟨by simp, [c], rfl⟩
theorem take_more : ∀ (xs : List Int) (i acc : Nat) (q : List Int) {v : Nat} {r : List Int}, takeV i acc xs = some (v, r) → takeV i acc (xs ++ q) = some (v, r ++ q)
  | [], i, acc, q, v, r, h => by simp [takeV] at h
  | c :: xs, i, acc, q, v, r, h => by
    rw [takeV] at h
    rw [List.cons_append, takeV]
    by_cases h9 : 9 ≤ i
    · rw [if_pos h9] at h; cases h
    · rw [if_neg h9] at h ⊢
      by_cases h128 : 128 ≤ c
      · rw [if_pos h128] at h ⊢
        exact take_more xs _ _ q h
      · rw [if_neg h128] at h ⊢
        by_cases h0 : 0 < i ∧ c = 0
        · rw [if_pos h0] at h; cases h
        · rw [if_neg h0] at h ⊢
          injection h with h; injection h with h1 h2
          subst h1; subst h2; rfl
theorem bytes_app {a b : List Int} (ha : Bytes a) (hb : Bytes b) : Bytes (a ++ b) := fun x hx => by
  rcases List.mem_append.1 hx with h | h
  · exact ha x h
  · exact hb x h
theorem bytes_one {x : Int} (h0 : 0 ≤ x) (h1 : x < 256) : Bytes [x] := fun y hy => by
  simp only [List.mem_cons, List.not_mem_nil, or_false] at hy
  subst hy; exact ⟨h0, h1⟩
theorem vlq_bytes : ∀ (n : Nat), Bytes (vlq n) := by
  intro n
  induction n using Nat.strongRecOn with
  | _ n ih =>
    by_cases h : 127 < n
    · rw [vlq_more h]
      intro x hx
      rcases List.mem_cons.1 hx with rfl | hx
      · omega
      · exact ih (n / 128) (by omega) x hx
    · rw [vlq_last h]; exact bytes_one (by omega) (by omega)

theorem take_at {α : Type} {l : List α} {k : Nat} {p : α} (h : l[k]? = some p) : l.take (k + 1) = l.take k ++ [p] := by rw [List.take_add_one, h]; rfl
/-! ### sums and frames -/
def chkStep (s : Nat × Nat) (c : Int) : Nat × Nat := ((s.1 + c.toNat) % 65521, (s.2 + (s.1 + c.toNat) % 65521) % 65521)
def chkP (xs : List Int) : Nat × Nat := xs.foldl chkStep (1, 0)
def chkL (xs : List Int) : Nat := (chkP xs).2 * 65536 + (chkP xs).1
def endL (n : Nat) : List Int := [((n / 16777216 % 256 : Nat) : Int), ((n / 65536 % 256 : Nat) : Int), ((n / 256 % 256 : Nat) : Int), ((n % 256 : Nat) : Int)]
theorem endL_len (n : Nat) : (endL n).length = 4 := rfl
def frameL (xs : List Int) : List Int := vlq xs.length ++ xs ++ endL (chkL xs)
def begunL (xs : List Int) : Bool := decide (xs.length ≤ 8) && xs.all fun c => decide (128 ≤ c)
inductive NextR where
  | torn
  | bad
  | whole (x rest : List Int)
def nextL (xs : List Int) : NextR := if begunL xs then .torn else match takeV 0 0 xs with
  | none => .bad
  | some (n, r) => if 65536 < n then .bad else if r.length < n + 4 then .torn else if endL (chkL (r.take n)) = (r.drop n).take 4 then .whole (r.take n) (r.drop (n + 4)) else .bad
theorem next_less {xs x r : List Int} (h : nextL xs = .whole x r) : r.length < xs.length ∧ x.length ≤ 65536 ∧ ∃ p, p ++ r = xs := by
  unfold nextL at h
  by_cases hb : begunL xs = true
  · rw [if_pos hb] at h; cases h
  · rw [if_neg hb] at h
    cases ht : takeV 0 0 xs with
    | none => rw [ht] at h; cases h
    | some p =>
      obtain ⟨n, q⟩ := p
      rw [ht] at h
      simp only at h
      obtain ⟨l1, p, hp⟩ := take_less xs 0 0 ht
      by_cases h1 : 65536 < n
      · rw [if_pos h1] at h; cases h
      · rw [if_neg h1] at h
        by_cases h2 : q.length < n + 4
        · rw [if_pos h2] at h; cases h
        · rw [if_neg h2] at h
          by_cases h3 : endL (chkL (q.take n)) = (q.drop n).take 4
          · rw [if_pos h3] at h
            injection h with e1 e2
            subst e1 e2
            refine ⟨by rw [List.length_drop]; omega, by rw [List.length_take]; omega, p ++ q.take (n + 4), ?_⟩
            rw [List.append_assoc, List.take_append_drop, hp]
          · rw [if_neg h3] at h; cases h
/-- Frames, what is left of the bytes, and what stands there: 0 nothing, 1 a torn end, 2 something else. -/
def allL (xs : List Int) : List (List Int) × List Int × Nat :=
  if xs = [] then ([], [], 0) else match _h : nextL xs with
  | .torn => ([], xs, 1)
  | .bad => ([], xs, 2)
  | .whole x r => (x :: (allL r).1, (allL r).2)
termination_by xs.length
decreasing_by all_goals exact (next_less (by assumption)).1
theorem all_nil : allL [] = ([], [], 0) := by rw [allL]; simp
theorem all_torn {xs : List Int} (hx : xs ≠ []) (h : nextL xs = .torn) : allL xs = ([], xs, 1) := by
  rw [allL, if_neg hx]
  split
  · rfl
  · rename_i h2; rw [h] at h2; cases h2
  · rename_i h2; rw [h] at h2; cases h2
theorem all_bad {xs : List Int} (hx : xs ≠ []) (h : nextL xs = .bad) : allL xs = ([], xs, 2) := by
  rw [allL, if_neg hx]
  split
  · rename_i h2; rw [h] at h2; cases h2
  · rfl
  · rename_i h2; rw [h] at h2; cases h2
theorem all_whole {xs x r : List Int} (hx : xs ≠ []) (h : nextL xs = .whole x r) : allL xs = (x :: (allL r).1, (allL r).2) := by
  rw [allL, if_neg hx]
  split
  · rename_i h2; rw [h] at h2; cases h2
  · rename_i h2; rw [h] at h2; cases h2
  · rename_i h2; rw [h] at h2; injection h2 with e1 e2; subst e1 e2; rfl

/-! ### states -/
structure StateD where
  gen : Int
  app : Int
  next : Int
  tabs : List Int
deriving DecidableEq
def zeroS : StateD := ⟨0, 0, 0, []⟩
def firstS : StateD := ⟨0, 0, 1, []⟩
structure RightS (s : StateD) : Prop where
  g0 : 1 ≤ s.gen
  g1 : s.gen ≤ 1099511627776
  a0 : 0 ≤ s.app
  a1 : s.app ≤ 1099511627776
  n0 : 1 ≤ s.next
  n1 : s.next ≤ 999999
  few : s.tabs.length ≤ 50
  low : ∀ t ∈ s.tabs, 1 ≤ t
  high : ∀ t ∈ s.tabs, t < s.next
  once : s.tabs.Nodup
def rightS (s : StateD) : Bool := decide (1 ≤ s.gen ∧ s.gen ≤ 1099511627776 ∧ 0 ≤ s.app ∧ s.app ≤ 1099511627776 ∧ 1 ≤ s.next ∧ s.next ≤ 999999 ∧ s.tabs.length ≤ 50 ∧ (∀ t ∈ s.tabs, 1 ≤ t ∧ t < s.next) ∧ s.tabs.Nodup)
theorem right_iff {s : StateD} : rightS s = true ↔ RightS s := by
  unfold rightS
  rw [decide_eq_true_eq]
  exact ⟨fun ⟨a, b, c, d, e, f, g, h, i⟩ => ⟨a, b, c, d, e, f, g, fun t ht => (h t ht).1, fun t ht => (h t ht).2, i⟩,
    fun h => ⟨h.g0, h.g1, h.a0, h.a1, h.n0, h.n1, h.few, fun t ht => ⟨h.low t ht, h.high t ht⟩, h.once⟩⟩
def numsS (s : StateD) : List Int := s.gen :: s.app :: s.next :: (s.tabs.length : Int) :: s.tabs
def vlqs (l : List Int) : List Int := l.flatMap fun n => vlq n.toNat
def bytesS (s : StateD) : List Int := vlqs (numsS s)
/-- All numbers of bytes. -/
def decN (xs : List Int) : Option (List Int) :=
  if xs = [] then some [] else match _h : takeV 0 0 xs with
  | none => none
  | some (n, r) => (decN r).map fun l => (n : Int) :: l
termination_by xs.length
decreasing_by exact (take_less xs 0 0 (by assumption)).1
theorem decN_nil : decN [] = some [] := by rw [decN]; simp
theorem decN_none {xs : List Int} (hx : xs ≠ []) (h : takeV 0 0 xs = none) : decN xs = none := by
  rw [decN, if_neg hx]
  split
  · rfl
  · rename_i h2; rw [h] at h2; cases h2
theorem decN_some {xs r : List Int} {n : Nat} (hx : xs ≠ []) (h : takeV 0 0 xs = some (n, r)) : decN xs = (decN r).map fun l => (n : Int) :: l := by
  rw [decN, if_neg hx]
  split
  · rename_i h2; rw [h] at h2; cases h2
  · rename_i h2; rw [h] at h2; injection h2 with h2; injection h2 with e1 e2; subst e1 e2; rfl
def ofN : List Int → Option StateD
  | g :: a :: n :: k :: ts => if k = ts.length ∧ rightS ⟨g, a, n, ts⟩ = true then some ⟨g, a, n, ts⟩ else none
  | _ => none
def decS (xs : List Int) : Option StateD := (decN xs).bind ofN
/-- The last of some frames' states. -/
def readGo : Bool → StateD → List (List Int) → Option StateD
  | _, last, [] => some last
  | first, last, f :: fs => match decS f with
    | none => none
    | some s => if first = false ∧ s.gen ≠ last.gen + 1 then none else readGo false s fs
def readS (xs : List Int) : Option (StateD × Nat) := if (allL xs).2.2 = 2 then none else (readGo true firstS (allL xs).1).map fun s => (s, xs.length - (allL xs).2.1.length)

/-! ### what is written is read again -/
theorem vlq_ne (n : Nat) : vlq n ≠ [] := by
  by_cases h : 127 < n
  · rw [vlq_more h]; simp
  · rw [vlq_last h]; simp
theorem dec_vlqs : ∀ (l : List Int), (∀ n ∈ l, 0 ≤ n ∧ n < 9223372036854775808) → decN (vlqs l) = some l
  | [], _ => decN_nil
  | n :: l, h => by
    have hn := h n (by simp)
    have e : vlqs (n :: l) = vlq n.toNat ++ vlqs l := by unfold vlqs; rw [List.flatMap_cons]
    rw [e, decN_some (fun c => vlq_ne _ (List.append_eq_nil_iff.1 c).1) (take_num (by omega) _), dec_vlqs l fun m hm => h m (by simp [hm])]
    simp only [Option.map_some]
    congr 2
    omega
theorem dec_back {s : StateD} (h : rightS s = true) : decS (bytesS s) = some s := by
  have k := right_iff.1 h
  unfold decS bytesS
  rw [dec_vlqs _ (fun n hn => by
    unfold numsS at hn
    simp only [List.mem_cons] at hn
    rcases hn with rfl | rfl | rfl | rfl | hn
    · have := k.g0; have := k.g1; omega
    · have := k.a0; have := k.a1; omega
    · have := k.n0; have := k.n1; omega
    · have := k.few; omega
    · have := k.low n hn; have := k.high n hn; have := k.n1; omega)]
  show (if (s.tabs.length : Int) = s.tabs.length ∧ rightS ⟨s.gen, s.app, s.next, s.tabs⟩ = true then some (⟨s.gen, s.app, s.next, s.tabs⟩ : StateD) else none) = some s
  exact if_pos ⟨rfl, h⟩
theorem vlq_begun : ∀ (n : Nat) (r : List Int), begunL (vlq n ++ r) = false := by
  have : ∀ (n : Nat) (r : List Int), (vlq n ++ r).all (fun c => decide (128 ≤ c)) = false := by
    intro n
    induction n using Nat.strongRecOn with
    | _ n ih =>
      intro r
      by_cases h : 127 < n
      · rw [vlq_more h, List.cons_append, List.all_cons, ih _ (by omega) r, Bool.and_false]
      · rw [vlq_last h, List.singleton_append, List.all_cons]
        have : decide ((128 : Int) ≤ (n : Int)) = false := decide_eq_false (by omega)
        rw [this, Bool.false_and]
  intro n r
  unfold begunL
  rw [this, Bool.and_false]
theorem next_frame {x : List Int} (h : x.length ≤ 65536) (r : List Int) : nextL (frameL x ++ r) = .whole x r := by
  unfold nextL frameL
  rw [List.append_assoc, List.append_assoc, vlq_begun, take_num (by omega)]
  simp only [Bool.false_eq_true, if_false]
  rw [if_neg (by omega), if_neg (by simp only [List.length_append, endL_len]; omega)]
  rw [List.take_left, List.drop_left, show (endL (chkL x) ++ r).take 4 = endL (chkL x) from List.take_left' (endL_len _), if_pos rfl]
  rw [← List.drop_drop, List.drop_left, show (endL (chkL x) ++ r).drop 4 = r from List.drop_left' (endL_len _)]
theorem frame_ne (x r : List Int) : frameL x ++ r ≠ [] := fun h => vlq_ne _ (by
  unfold frameL at h
  simp only [List.append_eq_nil_iff] at h
  exact h.1.1.1)
theorem all_frame {x : List Int} (h : x.length ≤ 65536) (r : List Int) : allL (frameL x ++ r) = (x :: (allL r).1, (allL r).2) := all_whole (frame_ne x r) (next_frame h r)
/-- A file of states. -/
def fileS (ss : List StateD) : List Int := ss.flatMap fun s => frameL (bytesS s)
theorem vlqs_len : ∀ (l : List Int) (k : Nat), (∀ n ∈ l, n.toNat < 9223372036854775808) → l.length ≤ k → (vlqs l).length ≤ 9 * k
  | [], k, _, _ => Nat.zero_le _
  | n :: l, k, h, hk => by
    rw [List.length_cons] at hk
    have e : vlqs (n :: l) = vlq n.toNat ++ vlqs l := by unfold vlqs; rw [List.flatMap_cons]
    rw [e, List.length_append]
    have h1 := vlq_small (h n (by simp))
    have h2 := vlqs_len l (k - 1) (fun m hm => h m (by simp [hm])) (by omega)
    omega
theorem bytesS_len {s : StateD} (h : rightS s = true) : (bytesS s).length ≤ 486 := by
  have k := right_iff.1 h
  refine vlqs_len (numsS s) 54 (fun n hn => ?_) (by have := k.few; unfold numsS; simp only [List.length_cons]; omega)
  unfold numsS at hn
  simp only [List.mem_cons] at hn
  rcases hn with rfl | rfl | rfl | rfl | hn
  · have := k.g1; omega
  · have := k.a1; omega
  · have := k.n1; omega
  · have := k.few; omega
  · have := k.high n hn; have := k.n1; omega
theorem all_file : ∀ (ss : List StateD), (∀ s ∈ ss, rightS s = true) → ∀ r : List Int, allL (fileS ss ++ r) = (ss.map bytesS ++ (allL r).1, (allL r).2)
  | [], _, r => rfl
  | s :: ss, h, r => by
    have e : fileS (s :: ss) ++ r = frameL (bytesS s) ++ (fileS ss ++ r) := by unfold fileS; rw [List.flatMap_cons, List.append_assoc]
    rw [e, all_frame (by have := bytesS_len (h s (by simp)); omega), all_file ss (fun t ht => h t (by simp [ht])) r]
    rfl
/-- Each state follows the one ahead of it. -/
def Chain : Bool → StateD → List StateD → Prop
  | _, _, [] => True
  | first, last, s :: ss => (first = false → s.gen = last.gen + 1) ∧ Chain false s ss
def lastS (last : StateD) (ss : List StateD) : StateD := ss.getLast?.getD last
theorem last_cons (last s : StateD) (ss : List StateD) : lastS last (s :: ss) = lastS s ss := by
  unfold lastS
  cases ss with
  | nil => rfl
  | cons t ts =>
    rw [List.getLast?_cons_cons]
    cases h : (t :: ts).getLast? with
    | none => simp at h
    | some q => rfl
theorem read_go : ∀ (ss : List StateD) (first : Bool) (last : StateD) (fs : List (List Int)), (∀ s ∈ ss, rightS s = true) → Chain first last ss → readGo first last (ss.map bytesS ++ fs) = readGo (first && ss.isEmpty) (lastS last ss) fs
  | [], first, last, fs, _, _ => by simp [lastS]
  | s :: ss, first, last, fs, h, hc => by
    rw [List.map_cons, List.cons_append, readGo, dec_back (h s (by simp))]
    simp only
    rw [if_neg (fun c => c.2 (hc.1 c.1)), read_go ss false s fs (fun t ht => h t (by simp [ht])) hc.2, last_cons]
    simp
theorem read_file {ss : List StateD} (h : ∀ s ∈ ss, rightS s = true) (hc : Chain true firstS ss) : readS (fileS ss) = some (lastS firstS ss, (fileS ss).length) := by
  have h1 := all_file ss h []
  rw [List.append_nil, all_nil] at h1
  have h2 := read_go ss true firstS [] h hc
  unfold readS
  rw [h1]
  simp only
  rw [if_neg (by decide), h2]
  rfl
theorem chain_snoc : ∀ {ss : List StateD} {first : Bool} {last s : StateD}, Chain first last ss → (first = true → ss = [] ∨ s.gen = (lastS last ss).gen + 1) → (first = false → s.gen = (lastS last ss).gen + 1) → Chain first last (ss ++ [s])
  | [], first, last, s, _, _, h2 => ⟨fun h => h2 h, trivial⟩
  | t :: ss, first, last, s, hc, h1, h2 => ⟨hc.1, chain_snoc hc.2 (fun h => by cases h) (fun _ => by
      rw [last_cons] at h1 h2
      cases first with
      | true => exact (h1 rfl).elim (fun h => by cases h) id
      | false => exact h2 rfl)⟩
theorem file_snoc (ss : List StateD) (s : StateD) : fileS (ss ++ [s]) = fileS ss ++ frameL (bytesS s) := by
  unfold fileS
  rw [List.flatMap_append, List.flatMap_cons, List.flatMap_nil, List.append_nil]
theorem last_snoc (last : StateD) (ss : List StateD) (s : StateD) : lastS last (ss ++ [s]) = s := by
  unfold lastS
  rw [List.getLast?_append]
  rfl
end Go.Proofs.Ytideokbaenkijaa
