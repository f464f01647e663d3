/-
  The law package's great.
-/
import Derived.Test.YtmjoepipcmglkaaSDo
namespace Go.Proofs.Ytmjoepipcmglkaa
open Go.RowKit

abbrev RdC := Rd 5 CallD.l
/-- The cells of call i. -/
theorem rdc {w : World} {A : Option Addr} {n : Nat} {cs : List CallD} (h : RdC w A n cs) (i : Nat) (hi : i < n) :
    ∃ c b off, cs[i]? = some c ∧ A = some ⟨b, off, none⟩ ∧ b < w.heap.size ∧ w.cell? ⟨b, off + i * 5, none⟩ = some (.int .i64 c.what) ∧ w.cell? ⟨b, off + i * 5 + 1, none⟩ = some (.string c.name) ∧ w.cell? ⟨b, off + i * 5 + 2, none⟩ = some (.string c.to) ∧
      w.cell? ⟨b, off + i * 5 + 3, none⟩ = some (.slice c.A c.m c.cm) ∧ w.cell? ⟨b, off + i * 5 + 4, none⟩ = some (.int .i64 c.n) := by
  obtain ⟨c, b, off, h1, h2, h3, h4⟩ := h.get i hi
  exact ⟨c, b, off, h1, h2, h3, h4 0 _ rfl, h4 1 _ rfl, h4 2 _ rfl, h4 3 _ rfl, h4 4 _ rfl⟩

/-- A call that came in. -/
structure CallIn (w : World) (c : CallD) : Prop where
  rd : RdB w c.A c.m c.xs
  nil : c.A = none → c.cm = 0
  few : c.m ≤ 140737488355328
  name : c.name.size ≤ 140737488351232
  to : c.to.size ≤ 140737488351232
  low : -9223372036854775808 ≤ c.n
  high : c.n < 9223372036854775808
theorem CallIn.below {w w' : World} {c : CallD} (h : CallIn w c) (hb : Below w.heap.size w w') : CallIn w' c := ⟨h.rd.below hb, h.nil, h.few, h.name, h.to, h.low, h.high⟩
theorem CallIn.ok {w : World} {c : CallD} (h : CallIn w c) (hm : c.m ≤ 3000) : CallOk w c :=
  ⟨h.rd, h.nil, by omega, by have := h.name; unfold maxLen; omega, by have := h.to; unfold maxLen; omega, h.low, h.high⟩

/-- Behind great. -/
def GreatOut (n : Nat) (cs : List CallD) (w : World) (e : Ending) (w' : World) : Prop := (∃ t, e = .returned (.bool t) ∧ (t = false → n ≤ 80 ∧ ∀ c ∈ cs, c.m ≤ 3000)) ∧ Below w.heap.size w w'
theorem take_all {α : Type} {p : α → Prop} {l : List α} {k : Nat} {x : α} (h : ∀ c ∈ l.take k, p c) (hx : l[k]? = some x) (hp : p x) : ∀ c ∈ l.take (k + 1), p c := fun c hc => by
  rw [take_get hx] at hc
  rcases List.mem_append.1 hc with hc | hc
  · exact h c hc
  · rw [List.mem_singleton.1 hc]; exact hp
set_option maxHeartbeats 2000000 in
set_option maxRecDepth 20000 in
theorem great_calls (A : Option Addr) (n ca : Nat) (cs : List CallD) (w : World) (h : RdC w A n cs) (hc : ∀ c ∈ cs, CallIn w c) :
    Calls Try.prog 8 #[.slice A n ca] w (GreatOut n cs w) := by
  by_cases h80 : n ≤ 80
  · have H80 := Lib.hid h80
    have f0 : ¬ (n : Int) > 80 := by omega
    have HC := Lib.hid hc
    clear h80 hc
    go_enter Try.func8, Try.ntmps8
    go_wp2_with fail
    go_loopw [3, 4] (fun s i wr => ∃ (k sv : Nat), k ≤ n ∧ sv ≤ 3000 ∧ s = .int .i64 sv ∧ i = .int .i64 k ∧ Hid (∀ c ∈ cs.take k, c.m ≤ 3000) ∧ Hid (Below w.heap.size w wr)) (fun _ i _ => n - (intOf i).toNat)
    case atStart => exact ⟨0, 0, Nat.zero_le _, Nat.zero_le _, rfl, rfl, (fun c hc => by cases hc), Below.refl _ _⟩
    case round =>
      obtain ⟨k, sv, hk, hsv3, rfl, rfl, HALL, HB⟩ := hrel
      by_cases hlt : k < n
      · obtain ⟨c, b, off, hc, rfl, _, c0, c1, c2, c3, c4⟩ := rdc (h.below HB.out) k hlt
        have hin := HC.out c (List.mem_of_getElem? hc)
        have hfew := hin.few
        obtain ⟨s2, hsv, hs2⟩ : ∃ s2 : Nat, wrap64 ((sv : Int) + (c.m : Int)) = (s2 : Int) ∧ c.m ≤ s2 := ⟨sv + c.m, by unfold wrap64; omega, by omega⟩
        have HS2 := Lib.hid hs2
        have HH := Lib.hid h
        have HCI := Lib.hid hc
        clear hc h hin hfew hs2 hsv3
        by_cases h3 : (s2 : Int) > 3000
        · go_wp2_with fail
          all_goals (go_ret; exact ⟨⟨_, rfl, fun h => by cases h⟩, HB.out⟩)
        · go_wp2_with fail
          all_goals first
            | (go_roundw
               case rel => exact ⟨k + 1, s2, by omega, by omega, rfl, by go_num, take_all HALL.out HCI.out (by have := HS2.out; omega), HB.out⟩
               case measure => simp [intOf]; omega)
            | (go_ret; exact ⟨⟨_, rfl, fun h => by cases h⟩, HB.out⟩)
      · have hfin : ∀ c ∈ cs, c.m ≤ 3000 := fun c hc => HALL.out c (by rw [List.take_of_length_le (by rw [← h.len]; omega)]; exact hc)
        have HF := Lib.hid hfin
        clear hfin
        go_wp2
        go_ret
        exact ⟨⟨_, rfl, fun _ => ⟨H80.out, HF.out⟩⟩, HB.out⟩
  · have f0 : (n : Int) > 80 := by omega
    clear h
    go_enter Try.func8, Try.ntmps8
    go_wp2
    go_ret
    exact ⟨⟨_, rfl, fun h => by cases h⟩, Below.refl _ _⟩
end Go.Proofs.Ytmjoepipcmglkaa
