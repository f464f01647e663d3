/-
  A torn frame, and a frame of which a bit was turned: plain.
-/
import Derived.Test.YtideokbaenkijaaMPlain
namespace Go.Proofs.Ytideokbaenkijaa
open Go.RowKit

/-- A beginning of a number's bytes: each of them says that more follows. -/
theorem vlq_begin : ∀ (n k : Nat), k < (vlq n).length → ∀ c ∈ (vlq n).take k, 128 ≤ c := by
  intro n
  induction n using Nat.strongRecOn with
  | _ n ih =>
    intro k hk c hc
    by_cases h : 127 < n
    · rw [vlq_more h] at hk hc
      cases k with
      | zero => simp at hc
      | succ k =>
        rw [List.take_succ_cons] at hc
        rcases List.mem_cons.1 hc with rfl | hc
        · omega
        · exact ih (n / 128) (by omega) k (by simp only [List.length_cons] at hk; omega) c hc
    · rw [vlq_last h] at hk hc
      have : k = 0 := by simp at hk; omega
      subst this
      simp at hc
theorem vlq_two {n : Nat} (h : n < 16384) : (vlq n).length ≤ 2 := by
  by_cases h1 : 127 < n
  · rw [vlq_more h1, vlq_last (by omega)]; simp
  · rw [vlq_last h1]; simp
/-- What is left of a frame that was cut is torn. -/
theorem next_torn {x : List Int} (hx : x.length < 16384) {cut : Nat} (h : cut < (frameL x).length) : nextL ((frameL x).take cut) = .torn := by
  unfold frameL at h ⊢
  rw [List.append_assoc] at h ⊢
  simp only [List.length_append, endL_len] at h
  have hl := vlq_two hx
  by_cases hc : cut < (vlq x.length).length
  · rw [List.take_append_of_le_length (Nat.le_of_lt hc)]
    have hb : begunL ((vlq x.length).take cut) = true := by
      unfold begunL
      rw [Bool.and_eq_true]
      refine ⟨decide_eq_true (by rw [List.length_take]; omega), List.all_eq_true.2 fun c hm => decide_eq_true (vlq_begin _ _ hc c hm)⟩
    unfold nextL
    rw [if_pos hb]
  · obtain ⟨k, rfl⟩ : ∃ k, cut = (vlq x.length).length + k := ⟨cut - (vlq x.length).length, by omega⟩
    rw [List.take_length_add_append]
    unfold nextL
    rw [vlq_begun, take_num (by omega)]
    simp only [Bool.false_eq_true, if_false]
    rw [if_neg (by omega), if_pos (by simp only [List.length_take, List.length_append, endL_len]; omega)]
/-- A file of states with a torn frame behind it. -/
theorem all_torn_file {ss : List StateD} (hs : ∀ s ∈ ss, rightS s = true) {x : List Int} (hx : x.length < 16384) {cut : Nat} (h : cut < (frameL x).length) (h0 : 0 < cut) :
    allL (fileS ss ++ (frameL x).take cut) = (ss.map bytesS, (frameL x).take cut, 1) := by
  have hne : (frameL x).take cut ≠ [] := fun e => by
    have := congrArg List.length e
    rw [List.length_take, List.length_nil] at this
    omega
  rw [all_file ss hs, all_torn hne (next_torn hx h), List.append_nil]
theorem read_torn {ss : List StateD} (hs : ∀ s ∈ ss, rightS s = true) (hc : Chain true firstS ss) {x : List Int} (hx : x.length < 16384) {cut : Nat} (h : cut < (frameL x).length) :
    readS (fileS ss ++ (frameL x).take cut) = some (lastS firstS ss, (fileS ss).length) := by
  by_cases h0 : 0 < cut
  · unfold readS
    rw [all_torn_file hs hx h h0]
    simp only
    have h2 := read_go ss true firstS [] hs hc
    rw [List.append_nil] at h2
    rw [if_neg (by decide), h2]
    simp only [readGo, Option.map_some, Option.some.injEq, Prod.mk.injEq, true_and]
    rw [List.length_append]
    omega
  · obtain rfl : cut = 0 := by omega
    rw [List.take_zero, List.append_nil]
    exact read_file hs hc

/-! ### a bit is turned -/
theorem chkStep_lt (s : Nat × Nat) (c : Int) : (chkStep s c).1 < 65521 ∧ (chkStep s c).2 < 65521 := ⟨Nat.mod_lt _ (by decide), Nat.mod_lt _ (by decide)⟩
theorem chk_fst : ∀ (xs : List Int) (s : Nat × Nat), s.1 < 65521 → (xs.foldl chkStep s).1 = (s.1 + (xs.map Int.toNat).sum) % 65521
  | [], s, h => by simp [Nat.mod_eq_of_lt h]
  | c :: xs, s, h => by
    rw [List.foldl_cons, chk_fst xs _ (chkStep_lt s c).1]
    unfold chkStep
    simp only [List.map_cons, List.sum_cons]
    rw [Nat.mod_add_mod, Nat.add_assoc]
theorem chk_lt' : ∀ (xs : List Int) (s : Nat × Nat), s.1 < 65521 → s.2 < 65521 → (xs.foldl chkStep s).1 < 65521 ∧ (xs.foldl chkStep s).2 < 65521
  | [], s, h1, h2 => ⟨h1, h2⟩
  | c :: xs, s, _, _ => chk_lt' xs _ (chkStep_lt s c).1 (chkStep_lt s c).2
theorem chk_lt (xs : List Int) : (chkP xs).1 < 65521 ∧ (chkP xs).2 < 65521 := chk_lt' xs _ (by decide) (by decide)
theorem chkL_lt2 (xs : List Int) : chkL xs < 4294967296 := by
  have := chk_lt xs
  unfold chkL
  omega
theorem chkL_fst {xs ys : List Int} (h : chkL xs = chkL ys) : ((xs.map Int.toNat).sum) % 65521 = ((ys.map Int.toNat).sum) % 65521 := by
  have h1 := chk_lt xs
  have h2 := chk_lt ys
  have e : (chkP xs).1 = (chkP ys).1 := by unfold chkL at h; omega
  unfold chkP at e
  rw [chk_fst xs _ (by decide), chk_fst ys _ (by decide)] at e
  omega
theorem endL_inj {a b : Nat} (ha : a < 4294967296) (hb : b < 4294967296) (h : endL a = endL b) : a = b := by
  unfold endL at h
  simp only [List.cons.injEq, and_true] at h
  omega
/-- One byte is another one by less than 256: the sums differ. -/
theorem chk_set {xs : List Int} (hb : Bytes xs) {i : Nat} {v c : Int} (hi : xs[i]? = some c) (hv : 0 ≤ v ∧ v < 256) (hne : v ≠ c) : chkL (xs.set i v) ≠ chkL xs := fun h => by
  have h1 := chkL_fst h
  have hlt := (List.getElem?_eq_some_iff.1 hi).1
  have hc := hb c (List.mem_of_getElem? hi)
  have e : (((xs.set i v).map Int.toNat).sum : Nat) + c.toNat = (xs.map Int.toNat).sum + v.toNat := by
    clear h h1 hb
    induction xs generalizing i with
    | nil => simp at hi
    | cons x xs ih =>
      cases i with
      | zero =>
        rw [List.getElem?_cons_zero] at hi
        injection hi with hi
        subst hi
        simp only [List.set_cons_zero, List.map_cons, List.sum_cons]
        omega
      | succ i =>
        rw [List.getElem?_cons_succ] at hi
        have := ih hi (by simp only [List.length_cons] at hlt; omega)
        simp only [List.set_cons_succ, List.map_cons, List.sum_cons]
        omega
  have hq : v.toNat ≠ c.toNat := by omega
  omega
theorem set_app_left {α : Type} {a b : List α} {i : Nat} (v : α) (h : i < a.length) : (a ++ b).set i v = a.set i v ++ b := by
  rw [List.set_append_left _ _ h]
theorem set_app_right {α : Type} {a b : List α} {i : Nat} (v : α) (h : a.length ≤ i) : (a ++ b).set i v = a ++ b.set (i - a.length) v := by
  rw [List.set_append_right _ _ h]
/-- A frame of which a byte behind its length was changed is told. -/
theorem next_turned {x : List Int} (hb : Bytes x) (hx : x.length ≤ 65536) {i : Nat} {v c : Int} (hi : (frameL x)[i]? = some c) (hlow : (vlq x.length).length ≤ i) (hv : 0 ≤ v ∧ v < 256) (hne : v ≠ c) :
    nextL ((frameL x).set i v) = .bad := by
  unfold frameL at hi ⊢
  rw [List.append_assoc] at hi ⊢
  rw [set_app_right v hlow]
  rw [List.getElem?_append_right hlow] at hi
  obtain ⟨j, hj⟩ : ∃ j, j = i - (vlq x.length).length := ⟨_, rfl⟩
  rw [← hj] at hi ⊢
  unfold nextL
  rw [vlq_begun, take_num (by omega)]
  simp only [Bool.false_eq_true, if_false]
  rw [if_neg (by omega), if_neg (by simp only [List.length_set, List.length_append, endL_len]; omega)]
  by_cases hjx : j < x.length
  · rw [set_app_left v hjx]
    rw [List.getElem?_append_left hjx] at hi
    rw [List.take_left' (List.length_set ..), List.drop_left' (List.length_set ..)]
    rw [show (endL (chkL x)).take 4 = endL (chkL x) from rfl, if_neg]
    intro h
    exact chk_set hb hi hv hne (endL_inj (chkL_lt2 _) (chkL_lt2 _) h)
  · rw [set_app_right v (by omega), List.take_left, List.drop_left]
    rw [List.getElem?_append_right (by omega)] at hi
    rw [List.take_of_length_le (by rw [List.length_set, endL_len]; exact Nat.le_refl 4), if_neg]
    intro h
    have h2 : ((endL (chkL x)).set (j - x.length) v)[j - x.length]? = some v := by
      rw [List.getElem?_set_self (List.getElem?_eq_some_iff.1 hi).1]
    rw [← h, hi] at h2
    injection h2 with h2
    exact hne h2.symm
theorem read_turned {x : List Int} (hb : Bytes x) (hx : x.length ≤ 65536) {i : Nat} {v c : Int} (hi : (frameL x)[i]? = some c) (hlow : (vlq x.length).length ≤ i) (hv : 0 ≤ v ∧ v < 256) (hne : v ≠ c) :
    readS ((frameL x).set i v) = none := by
  have hn : (frameL x).set i v ≠ [] := fun e => by
    have := congrArg List.length e
    rw [List.length_set] at this
    have h2 := (List.getElem?_eq_some_iff.1 hi).1
    rw [this] at h2
    simp at h2
  unfold readS
  rw [all_bad hn (next_turned hb hx hi hlow hv hne)]
  rfl
end Go.Proofs.Ytideokbaenkijaa
