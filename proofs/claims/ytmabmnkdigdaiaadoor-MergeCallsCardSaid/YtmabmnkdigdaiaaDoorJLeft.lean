/-
  The merger's Left; its begin, New.
-/
import Derived.Test.YtmabmnkdigdaiaaDoorJNext
import Derived.Test.YtmabmnkdigdaiaaDoorShelf
namespace Go.Proofs.YtmabmnkdigdaiaaDoor
open Go.RowKit

def leftC (L : List (List Cell)) : Nat := (L.map List.length).sum
theorem sum_set {L : List (List Cell)} : ∀ {t : Nat} {l : List Cell}, L[t]? = some l → (L.map List.length).sum = ((L.set t []).map List.length).sum + l.length := by
  induction L with
  | nil => intro t l h; simp at h
  | cons a L ih =>
    intro t l h
    cases t with
    | zero => simp at h; subst h; simp; omega
    | succ t =>
      have := ih (t := t) (l := l) (by simpa using h)
      simp [this]; omega
theorem Rep.sum : ∀ {rs : List Run} {L : List (List Cell)}, Rep rs L → (rs.map fun r => r.xs.length).sum = leftC L := by
  intro rs
  induction rs with
  | nil =>
    intro L h
    have : ∀ l ∈ L, l.length = 0 := fun l hl => by
      cases l with
      | nil => rfl
      | cons d ys =>
        obtain ⟨i, hi⟩ := List.getElem?_of_mem hl
        obtain ⟨r, hr, _⟩ := h.all i _ hi (by simp); cases hr
    unfold leftC
    rw [List.map_congr_left this]
    have : ∀ M : List (List Cell), (M.map fun _ => 0).sum = 0 := by
      intro M
      induction M with
      | nil => rfl
      | cons _ _ ih => simpa using ih
    rw [this]; rfl
  | cons x rest ih =>
    intro L h
    obtain ⟨t, h1, h2⟩ := h.mem x (by simp)
    have := ih (h.drop h1)
    unfold leftC at this ⊢
    rw [List.map_cons, List.sum_cons, this, sum_set h2]
    omega

set_option maxHeartbeats 4000000 in
theorem left_calls (base lim bm : Nat) (A : Option Addr) (L : List (List Cell)) (w : World) (h : MAt base lim bm A L w) :
    Calls Tryd.prog 16 #[.pointer (some ⟨bm, 0, none⟩)] w fun e w' => e = .returned (.int .i64 (leftC L)) ∧ Below w.heap.size w w' := by
  obtain ⟨n, cap, rs, hh, hd, hne, hrep, hlim⟩ := h
  have hsum : Hid ((rs.map Run.n).sum = leftC L) := by
    unfold Hid
    rw [← hrep.sum]
    exact congrArg List.sum (List.map_congr_left fun r hr => (hh.ok r hr).rd.len)
  have hhead := hh.head
  have hlen := Lib.hid hh.own.1
  have hfew := hh.few
  have H := Lib.hid hh
  clear hh hd hne hrep hlim
  go_enter Tryd.func16, Tryd.ntmps16
  go_wp2
  go_loopw [3, 11] (fun tot i wr => ∃ (k s : Nat), i = .int .i64 k ∧ tot = .int .i64 s ∧ k ≤ n ∧ s ≤ k * 1000000 ∧ Hid (s = ((rs.take k).map Run.n).sum) ∧ Below w.heap.size w wr) (fun _ i _ => n - (intOf i).toNat)
  case atStart => exact ⟨0, 0, rfl, rfl, Nat.zero_le _, by omega, rfl, Below.refl _ _⟩
  case round =>
    obtain ⟨k, s, rfl, rfl, hk, hs, hsk, hb⟩ := hrel
    by_cases hlt : k < n
    · obtain ⟨r, g, h1, rfl, _, hg, c0, c1, ok1⟩ := H.out.get k hlt
      have hsm := ok1.small
      have d0 := below_cell hb (Nat.le_refl _) c0
      have d1 := below_cell hb (Nat.le_refl _) c1
      have hst : Hid (((rs.take (k + 1)).map Run.n).sum = s + r.n) := by
        unfold Hid
        rw [List.take_add_one, h1, hsk.out]
        simp
      clear c0 c1 ok1 h1
      have hb2 := fun x => hb.alloc hb.size (w := wr) x
      have Hb2 := Lib.hid hb2
      clear hb2 hb
      go_wp2
      go_roundw
      case rel => exact ⟨k + 1, s + r.n, by go_num, by go_num, by omega, by omega, hst.out.symm, Hb2.out _⟩
      case measure => simp [intOf]; omega
    · obtain rfl : k = n := by omega
      go_wp2
      go_ret
      refine ⟨ret_int ?_, hb⟩
      have := hsk.out
      rw [List.take_of_length_le (by have := hlen.out; omega), hsum.out] at this
      rw [this]
end Go.Proofs.YtmabmnkdigdaiaaDoor
