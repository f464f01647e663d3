/-
  manifest.Read.
-/
import Derived.Test.YtideokbaenkijaaMDec
namespace Go.Proofs.Ytideokbaenkijaa
open Go.RowKit

theorem rdb_keep {w w' : World} {A : Option Addr} {n : Nat} {xs : List Int} {S : Nat → Prop} (h : RdB w A n xs) (ho : Only S w w') (hS : xs ≠ [] → ∀ a, A = some a → ¬ S a.block) : RdB w' A n xs := by
  cases xs with
  | nil => rw [show n = 0 from h.len]; exact Rd.nil _ _ _ _
  | cons x xs => exact h.only ho (hS (by simp))
theorem rdb_lt {w : World} {A : Option Addr} {n : Nat} {xs : List Int} (h : RdB w A n xs) (hx : xs ≠ []) : ∀ a, A = some a → a.block < w.heap.size := by
  cases xs with
  | nil => exact absurd rfl hx
  | cons x xs =>
    intro a ha
    obtain ⟨b, off, e, hb, _⟩ := h.at_ 0 x rfl
    rw [e] at ha
    injection ha with ha
    subst ha
    exact hb
theorem next_mem {xs x r : List Int} (h : nextL xs = .whole x r) : ∀ c ∈ x, c ∈ xs := by
  unfold nextL at h
  by_cases hb : begunL xs = true
  · rw [if_pos hb] at h; cases h
  · rw [if_neg hb] at h
    cases ht : takeV 0 0 xs with
    | none => rw [ht] at h; cases h
    | some p =>
      obtain ⟨n, q⟩ := p
      rw [ht] at h
      simp only at h
      obtain ⟨_, p, hp⟩ := take_less xs 0 0 ht
      by_cases h1 : 65536 < n
      · rw [if_pos h1] at h; cases h
      · rw [if_neg h1] at h
        by_cases h2 : q.length < n + 4
        · rw [if_pos h2] at h; cases h
        · rw [if_neg h2] at h
          by_cases h3 : endL (chkL (q.take n)) = (q.drop n).take 4
          · rw [if_pos h3] at h
            injection h with e1 e2
            intro c hc
            rw [← hp]
            rw [← e1] at hc
            exact List.mem_append_right _ (List.mem_of_mem_take hc)
          · rw [if_neg h3] at h; cases h
theorem all_rest : ∀ (f : Nat) (xs : List Int), xs.length ≤ f → (allL xs).2.1.length ≤ xs.length ∧ (∀ b ∈ (allL xs).1, ∀ x ∈ b, x ∈ xs) ∧ ∀ b ∈ (allL xs).1, b.length ≤ 65536
  | f, [], _ => by rw [all_nil]; exact ⟨Nat.le_refl _, (fun b hb => by cases hb), fun b hb => by cases hb⟩
  | 0, x :: xs, h => by simp at h
  | f + 1, x :: xs, h => by
    cases hn : nextL (x :: xs) with
    | torn => rw [all_torn (by simp) hn]; exact ⟨Nat.le_refl _, (fun b hb => by cases hb), fun b hb => by cases hb⟩
    | bad => rw [all_bad (by simp) hn]; exact ⟨Nat.le_refl _, (fun b hb => by cases hb), fun b hb => by cases hb⟩
    | whole y r =>
      obtain ⟨h1, h64, p, hp⟩ := next_less hn
      obtain ⟨i1, i2, i3⟩ := all_rest f r (by simp only [List.length_cons] at h h1; omega)
      rw [all_whole (by simp) hn]
      refine ⟨Nat.le_trans i1 (Nat.le_of_lt h1), fun b hb q hq => ?_, fun b hb => ?_⟩
      · rcases List.mem_cons.1 hb with rfl | hb
        · exact next_mem hn q hq
        · rw [← hp]; exact List.mem_append_right _ (i2 b hb q hq)
      · rcases List.mem_cons.1 hb with rfl | hb
        · exact h64
        · exact i3 b hb
theorem decS_gen {xs : List Int} {s : StateD} (h : decS xs = some s) : rightS s = true := by
  unfold decS at h
  cases hd : decN xs with
  | none => rw [hd] at h; cases h
  | some l =>
    rw [hd] at h
    change ofN l = some s at h
    match l with
    | [] => cases h
    | [_] => cases h
    | [_, _] => cases h
    | [_, _, _] => cases h
    | g :: a :: n :: k :: ts =>
      change (if k = ts.length ∧ rightS ⟨g, a, n, ts⟩ = true then some (⟨g, a, n, ts⟩ : StateD) else none) = some s at h
      by_cases hc : k = ts.length ∧ rightS ⟨g, a, n, ts⟩ = true
      · rw [if_pos hc] at h
        injection h with h
        rw [← h]
        exact hc.2
      · rw [if_neg hc] at h; cases h
/-- A state lies in a box. -/
structure StAt (w : World) (b : Nat) (s : StateD) (B : Option Addr) (k c : Nat) : Prop where
  is : w.heap[b]? = some (.cells #[.int .i64 s.gen, .int .i64 s.app, .int .i64 s.next, .slice B k c] 29)
/-- Read's answer. -/
def ReadOut (xs : List Int) (w : World) (e : Ending) (w' : World) : Prop := Below w.heap.size w w' ∧ ((readS xs = none ∧ e = .returned (.tuple #[zeroS.v none 0 0, .int .i64 0, .int .i64 20])) ∨
  ∃ (s : StateD) (m : Nat) (B : Option Addr) (k c : Nat), readS xs = some (s, m) ∧ m ≤ xs.length ∧ e = .returned (.tuple #[s.v B k c, .int .i64 m, .int .i64 0]) ∧ RdN w' B k s.tabs ∧ (B = none → c = 0) ∧ k ≤ 50 ∧ ∀ a, B = some a → w.heap.size < a.block)

set_option maxHeartbeats 4000000 in
set_option maxRecDepth 20000 in
theorem readm_calls (A : Option Addr) (n cap : Nat) (xs : List Int) (w : World) (hx : RdB w A n xs) (hb : Bytes xs) (hn : n ≤ 1000000) (hcap : n ≤ cap) (hcm : cap ≤ maxLen) :
    Calls Try.prog 13 #[.slice A n cap] w (ReadOut xs w) := by
  obtain ⟨hbx, cv⟩ := one_box w (zeroS.cells none 0 0) 29
  obtain ⟨W0, hW0⟩ : ∃ W0, W0 = w.alloc (.cells #[.int .i64 0, .int .i64 0, .int .i64 0, .slice none 0 0] 29) := ⟨_, rfl⟩
  have hbx : Below w.heap.size w W0 := by rw [hW0]; exact hbx
  have HAL := Lib.hid (all_calls A n cap xs W0 (hx.below hbx) hb hn hcap hcm)
  have HBX := Lib.hid hbx
  have HBY := Lib.hid hb
  have HNL := Lib.hid hx.len
  have HZ0 : Hid (W0.heap[w.heap.size]? = some (.cells #[.int .i64 0, .int .i64 0, .int .i64 0, .slice none 0 0] 29)) := by unfold Hid; rw [hW0]; exact heap_alloc_new _ _
  have HWZ : Hid (w.heap.size < W0.heap.size) := by unfold Hid; rw [hW0]; simp
  clear hx hb hcm cv hbx
  go_enter Try.func13, Try.ntmps13
  go_wp2_with fail
  rw [← hW0]
  clear hW0
  refine HAL.out.mono ?_
  rintro e w1 ⟨hb1, rows, O, k, oc, rfl, hrd, hrows, hrok, hkn, hrcap⟩
  obtain ⟨hrl, hmem, hsml⟩ := all_rest xs.length xs (Nat.le_refl _)
  have hfby : ∀ r ∈ rows, Bytes r.xs := fun r hr x hx => HBY.out x (hmem r.xs (by rw [← hrows]; exact List.mem_map.2 ⟨r, hr, rfl⟩) x hx)
  have HSM : Hid (∀ r ∈ rows, r.xs.length ≤ 65536) := fun r hr => hsml r.xs (by rw [← hrows]; exact List.mem_map.2 ⟨r, hr, rfl⟩)
  clear hsml
  obtain ⟨fs, hfs⟩ : ∃ fs, fs = (allL xs).1 := ⟨_, rfl⟩
  obtain ⟨rl, hrl2⟩ : ∃ rl, rl = (allL xs).2.1.length := ⟨_, rfl⟩
  obtain ⟨wh, hwh⟩ : ∃ wh, wh = (allL xs).2.2 := ⟨_, rfl⟩
  rw [← hfs] at hrows
  rw [← hrl2] at hrl
  rw [← hrl2, ← hwh]
  have hrs : readS xs = if wh = 2 then none else (readGo true firstS fs).map fun s => (s, xs.length - rl) := by unfold readS; rw [hfs, hrl2, hwh]
  have HRS := Lib.hid hrs
  have HRD := Lib.hid hrd
  have HROWS := Lib.hid hrows
  have HROK := Lib.hid hrok
  have HCAP := Lib.hid hrcap
  have HFBY := Lib.hid hfby
  have HRL := Lib.hid hrl
  have HB1 := Lib.hid hb1
  have hz1 : w1.heap[w.heap.size]? = some (.cells #[.int .i64 0, .int .i64 0, .int .i64 0, .slice none 0 0] 29) := (hb1.block _ HWZ.out).trans HZ0.out
  have HZ1 := Lib.hid hz1
  have HBF1 := Lib.hid (HBX.out.trans (hb1.mono HBX.out.size))
  have hwz1 : w.heap.size < w1.heap.size := Nat.lt_of_lt_of_le HWZ.out hb1.size
  have hrn : wrap64 ((n : Int) - (rl : Int)) = (n : Int) - rl := by have := HNL.out; unfold wrap64; omega
  clear hrs hrd hrows hrok hrcap hfby hrl hmem hfs hrl2 hwh hb1 HAL
  by_cases h2 : wh = 2
  · subst h2
    obtain ⟨z0, z1, z2, z3, zf⟩ := box4 hz1
    have HNO : Hid (readS xs = none) := by unfold Hid; rw [HRS.out, if_pos rfl]
    clear hz1
    go_wp2_with fail
    obtain ⟨hs1, hs2⟩ := set4 HZ1.out (.int .i64 0) (.int .i64 0) (.int .i64 0) (.slice none 0 0)
    obtain ⟨y0, y1, y2, y3, _⟩ := box4 hs1
    have hbf := HBF1.out.trans (hs2.below HBF1.out.size (fun i hi => Nat.le_of_eq hi.symm))
    refine bodyPost_ret (v := .tuple #[.agg #[.int .i64 0, .int .i64 0, .int .i64 0, .slice none 0 0], .int .i64 0, .int .i64 20]) (by simp [results, Try.results13, go_sem, y0, y1, y2, y3]; try rfl) rfl ⟨hbf, .inl ⟨HNO.out, rfl⟩⟩
  · have hw2 : ((wh : Int) == 2) = false := by simp; omega
    have hw3 : ¬ ((wh : Int) = 2) := by omega
    clear hz1
    have HRS2 : Hid (readS xs = (readGo true firstS fs).map fun s => (s, xs.length - rl)) := by unfold Hid; rw [HRS.out, if_neg h2]
    have hlb : Below w1.heap.size w1 (w1.alloc (.cells #[.int .i64 0, .int .i64 0, .int .i64 1, .slice none 0 0] 29)) := (Below.refl _ _).alloc (Nat.le_refl _) _
    obtain ⟨W1, hW1⟩ : ∃ W1, W1 = w1.alloc (.cells #[.int .i64 0, .int .i64 0, .int .i64 1, .slice none 0 0] 29) := ⟨_, rfl⟩
    have hL0 : W1.heap[w1.heap.size]? = some (.cells #[.int .i64 0, .int .i64 0, .int .i64 1, .slice none 0 0] 29) := by rw [hW1]; exact heap_alloc_new _ _
    rw [← hW1] at hlb
    have hsz1 : W1.heap.size = w1.heap.size + 1 := by rw [hW1]; simp
    have HL0 := Lib.hid hL0
    have HLB := Lib.hid hlb
    have HSZ1 := Lib.hid hsz1
    clear hlb hL0 hsz1 HRS h2
    go_wp2_with fail
    rw [← hW1]
    clear hW1
    go_loopw [25] (fun iv wr => ∃ (j : Nat) (last : StateD) (B : Option Addr) (kk cc : Nat), j ≤ k ∧ iv = .int .i64 j ∧ Hid (Only (fun x => x = w1.heap.size) W1 wr) ∧ Hid (StAt wr w1.heap.size last B kk cc) ∧ Hid (RdN wr B kk last.tabs) ∧ Hid (B = none → cc = 0) ∧ Hid (kk ≤ 50) ∧ Hid (∀ a, B = some a → a.block ≠ w1.heap.size ∧ w.heap.size < a.block) ∧ Hid (-1099511627777 ≤ last.gen ∧ last.gen ≤ 1099511627776) ∧ Hid (readGo true firstS fs = readGo (decide (j = 0)) last (fs.drop j))) (fun iv _ => k - (intOf iv).toNat)
    case atStart => exact ⟨0, firstS, none, 0, 0, Nat.zero_le _, rfl, Only.refl _ _, ⟨HL0.out⟩, Rd.nil _ _ _ _, fun _ => rfl, Nat.zero_le _, (fun a h => nomatch h), (by unfold Hid firstS; simp), rfl⟩
    case round =>
      obtain ⟨j, last, B, kk, cc, hj, rfl, HON, HBX2, HRB, HBN, HKK, HBA, HGN, HGO⟩ := hrel
      by_cases hjk : j < k
      · have hms : k - (j + 1) < k - j := Nat.sub_lt_sub_left hjk (Nat.lt_succ_self j)
        have hrowsR : Rd 1 BRow.l wr O k rows := (HRD.out.below HLB.out).only HON.out fun a ha he => by
          obtain ⟨_, b, o, _, e, hb, _⟩ := HRD.out.get j hjk
          rw [e] at ha; injection ha with ha; subst ha
          have he' : b = w1.heap.size := he
          omega
        obtain ⟨r, rb, ro, hr, rfl, _, hc0⟩ := hrowsR.get j hjk
        have r0 := hc0 0 _ rfl
        simp only [Nat.mul_one, Nat.add_zero] at r0
        have hrm := List.mem_of_getElem? hr
        have hrd : RdB wr r.A r.n r.xs := rdb_keep ((HROK.out r hrm).rd.below HLB.out) HON.out fun hne a ha he => by
          have := rdb_lt (HROK.out r hrm).rd hne a ha
          have he' : a.block = w1.heap.size := he
          omega
        have hfj : fs[j]? = some r.xs := by rw [← HROWS.out, List.getElem?_map, hr]; rfl
        have hrl6 : r.n ≤ 1000000 := by have h5 := HSM.out r hrm; have h6 := (HROK.out r hrm).rd.len; omega
        have HDEC := Lib.hid (decm_calls r.A r.n r.cap r.xs wr hrd (HFBY.out r hrm) hrl6 (HCAP.out r hrm).1 (HCAP.out r hrm).2)
        have HFJ := Lib.hid hfj
        have HKEEP : Hid (∀ w3, Below wr.heap.size wr w3 → w3.heap[w.heap.size]? = some (.cells #[.int .i64 0, .int .i64 0, .int .i64 0, .slice none 0 0] 29) ∧ w3.heap[w1.heap.size]? = some (.cells #[.int .i64 last.gen, .int .i64 last.app, .int .i64 last.next, .slice B kk cc] 29) ∧ Below w.heap.size w w3 ∧ w1.heap.size < w3.heap.size) := fun w3 hb3 => by
          have s1 := HON.out.size
          have s2 := HSZ1.out
          have s3 := hb3.size
          refine ⟨?_, (hb3.block _ (by omega)).trans HBX2.out.is, ?_, by omega⟩
          · rw [hb3.block _ (by omega), HON.out.block _ (by omega) (by omega), HLB.out.block _ hwz1]
            exact HZ1.out
          · have q1 := HBF1.out.trans (HLB.out.mono HBF1.out.size)
            have q2 := q1.trans (HON.out.below q1.size fun i hi => by omega)
            exact q2.trans (hb3.mono q2.size)
        clear hrowsR hc0 hr hrm hrd hfj hrl6
        go_wp2_with fail
        refine HDEC.out.mono ?_
        rintro e w3 ⟨hb3, ⟨hd, rfl⟩ | ⟨s, B3, k3, c3, hd, rfl, hrd3, hn3, hk3, hfr3⟩⟩
        · have hgo : readGo true firstS fs = none := by
            rw [HGO.out, List.drop_eq_getElem_cons (List.getElem?_eq_some_iff.1 HFJ.out).1, (List.getElem?_eq_some_iff.1 HFJ.out).2, readGo, hd]
          have HNO : Hid (readS xs = none) := by unfold Hid; rw [HRS2.out, hgo]; rfl
          obtain ⟨hz3, hl3, hbf3, hlt3⟩ := HKEEP.out w3 hb3
          have hba : Below w3.heap.size w3 (w3.alloc (.cells #[.int .i64 zeroS.gen, .int .i64 zeroS.app, .int .i64 zeroS.next, .slice none 0 0] 29)) := (Below.refl _ _).alloc (Nat.le_refl _) _
          have hz4 := (hba.block w.heap.size (by omega)).trans hz3
          have HZ4 := Lib.hid hz4
          obtain ⟨z0, z1, z2, z3, zf⟩ := box4 hz4
          have HBF4 : Hid (Below w.heap.size w (w3.alloc (.cells #[.int .i64 zeroS.gen, .int .i64 zeroS.app, .int .i64 zeroS.next, .slice none 0 0] 29))) := hbf3.alloc hbf3.size _
          clear hb3 hd hz3 hl3 hbf3 hba hz4 hgo HDEC
          go_wp2_with fail
          obtain ⟨hs1, hs2⟩ := set4 HZ4.out (.int .i64 0) (.int .i64 0) (.int .i64 0) (.slice none 0 0)
          obtain ⟨y0, y1, y2, y3, _⟩ := box4 hs1
          have hbf := HBF4.out.trans (hs2.below HBF4.out.size (fun i hi => Nat.le_of_eq hi.symm))
          refine bodyPost_ret (v := .tuple #[.agg #[.int .i64 0, .int .i64 0, .int .i64 0, .slice none 0 0], .int .i64 0, .int .i64 20]) (by simp [results, Try.results13, go_sem, y0, y1, y2, y3]; try rfl) rfl ⟨hbf, .inl ⟨HNO.out, rfl⟩⟩
        · obtain ⟨hz3, hl3, hbf3, hlt3⟩ := HKEEP.out w3 hb3
          have hba : Below w3.heap.size w3 (w3.alloc (.cells #[.int .i64 s.gen, .int .i64 s.app, .int .i64 s.next, .slice B3 k3 c3] 29)) := (Below.refl _ _).alloc (Nat.le_refl _) _
          have hz4 := (hba.block w.heap.size (by omega)).trans hz3
          have hl4 := (hba.block w1.heap.size hlt3).trans hl3
          have HZ4 := Lib.hid hz4
          have HL4 := Lib.hid hl4
          obtain ⟨z0, z1, z2, z3, zf⟩ := box4 hz4
          obtain ⟨l0, l1, l2, l3, lf⟩ := box4 hl4
          obtain ⟨m0, m1, m2, m3, mf⟩ := box4 hl3
          have hs4 := heap_alloc_new w3 (.cells #[.int .i64 s.gen, .int .i64 s.app, .int .i64 s.next, .slice B3 k3 c3] 29)
          obtain ⟨s0, s1, s2, s3, sf⟩ := box4 hs4
          have HBF4 : Hid (Below w.heap.size w (w3.alloc (.cells #[.int .i64 s.gen, .int .i64 s.app, .int .i64 s.next, .slice B3 k3 c3] 29))) := hbf3.alloc hbf3.size _
          have hsg := decS_gen hd
          have hwg : wrap64 (last.gen + 1) = last.gen + 1 := by have := HGN.out; unfold wrap64; omega
          by_cases hbad : 0 < j ∧ s.gen ≠ last.gen + 1
          · have hj0 : (j : Int) > 0 := by omega
            have hq : (s.gen != last.gen + 1) = true := by simpa using hbad.2
            have HNO : Hid (readS xs = none) := by
              unfold Hid
              rw [HRS2.out, HGO.out, List.drop_eq_getElem_cons (List.getElem?_eq_some_iff.1 HFJ.out).1, (List.getElem?_eq_some_iff.1 HFJ.out).2, readGo, hd]
              simp only
              rw [if_pos ⟨decide_eq_false (by omega), hbad.2⟩]
              rfl
            clear hb3 hd hz3 hl3 hbf3 hba hz4 hl4 hs4 hbad hsg hrd3 hn3 hk3 hfr3 HDEC
            go_wp2
            obtain ⟨hs1, hs2⟩ := set4 HZ4.out (.int .i64 0) (.int .i64 0) (.int .i64 0) (.slice none 0 0)
            obtain ⟨y0, y1, y2, y3, _⟩ := box4 hs1
            have hbf := HBF4.out.trans (hs2.below HBF4.out.size (fun i hi => Nat.le_of_eq hi.symm))
            refine bodyPost_ret (v := .tuple #[.agg #[.int .i64 0, .int .i64 0, .int .i64 0, .slice none 0 0], .int .i64 0, .int .i64 20]) (by simp [results, Try.results13, go_sem, y0, y1, y2, y3]; try rfl) rfl ⟨hbf, .inl ⟨HNO.out, rfl⟩⟩
          · have HGO2 : Hid (readGo true firstS fs = readGo (decide (j + 1 = 0)) s (fs.drop (j + 1))) := by
              unfold Hid
              rw [HGO.out, List.drop_eq_getElem_cons (List.getElem?_eq_some_iff.1 HFJ.out).1, (List.getElem?_eq_some_iff.1 HFJ.out).2, readGo, hd]
              simp only
              rw [if_neg fun c => hbad ⟨by have := of_decide_eq_false c.1; omega, c.2⟩]
              rfl
            have hrs := right_iff.1 hsg
            have HGN2 : Hid (-1099511627777 ≤ s.gen ∧ s.gen ≤ 1099511627776) := ⟨by have := hrs.g0; omega, hrs.g1⟩
            have honly := set4 hl3 (.int .i64 s.gen) (.int .i64 s.app) (.int .i64 s.next) (.slice B3 k3 c3)
            obtain ⟨W5, hW5⟩ : ∃ W5, W5 = ((((w3.setCell ⟨w1.heap.size, 0, none⟩ (.int .i64 s.gen)).setCell ⟨w1.heap.size, 1, none⟩ (.int .i64 s.app)).setCell ⟨w1.heap.size, 2, none⟩ (.int .i64 s.next)).setCell ⟨w1.heap.size, 3, none⟩ (.slice B3 k3 c3)) := ⟨_, rfl⟩
            rw [← hW5] at honly
            have hbb : Below W5.heap.size W5 (W5.alloc (.cells #[.int .i64 s.gen, .int .i64 s.app, .int .i64 s.next, .slice B3 k3 c3] 29)) := (Below.refl _ _).alloc (Nat.le_refl _) _
            have hl5 : w1.heap.size < W5.heap.size := Nat.lt_of_lt_of_le hlt3 honly.2.size
            have hlw : w1.heap.size < wr.heap.size := by have := HON.out.size; have := HSZ1.out; omega
            have HON2 := Lib.hid (HON.out.trans ((hb3.only _).trans (honly.2.trans (hbb.only _))))
            have HBX3 := Lib.hid (StAt.mk (s := s) (B := B3) (k := k3) (c := c3) ((hbb.block _ hl5).trans honly.1))
            have HRB3 := Lib.hid ((hrd3.only honly.2 fun a ha he => by have h8 := hfr3 a ha; have he' : a.block = w1.heap.size := he; omega).below hbb)
            rw [hW5] at HON2 HBX3 HRB3
            clear hW5 hbb hl5
            have HBA3 : Hid (∀ a, B3 = some a → a.block ≠ w1.heap.size ∧ w.heap.size < a.block) := fun a ha => by have h8 := hfr3 a ha; exact ⟨by omega, by omega⟩
            have HN3 := Lib.hid hn3
            have HK3 := Lib.hid hk3
            have hrj : wrap64 ((j : Int) + 1) = ((j + 1 : Nat) : Int) := by unfold wrap64; omega
            clear hb3 hd hz3 hl3 hbf3 hba hz4 hl4 hs4 hsg hrs hrd3 hn3 hk3 hfr3 HDEC honly hlw
            rcases Nat.eq_zero_or_pos j with h0 | h0
            · subst h0
              have hj0 : ¬ ((0 : Nat) : Int) > 0 := by omega
              clear z0 z1 z2 z3 zf l0 l1 l2 l3 lf HZ4 HL4 HBF4 HKEEP
              go_wp2_with fail
              go_roundw
              case rel => exact ⟨1, s, B3, k3, c3, by omega, by go_num, HON2.out, HBX3.out, HRB3.out, HN3.out, HK3.out, HBA3.out, HGN2.out, HGO2.out⟩
              case measure => simp [intOf]; omega
            · have hj0 : (j : Int) > 0 := Int.natCast_pos.2 h0
              have hgg : s.gen = last.gen + 1 := Classical.byContradiction fun h => hbad ⟨h0, h⟩
              obtain ⟨g1, hg1⟩ : ∃ g1, g1 = last.gen + 1 := ⟨_, rfl⟩
              have hwg2 : wrap64 (last.gen + 1) = g1 := hwg.trans hg1.symm
              have hq : (s.gen != g1) = false := by simp [hgg, hg1]
              clear hgg hg1 hbad hrn hrj hwg z0 z1 z2 z3 zf l0 l1 l2 l3 lf HZ4 HL4 HBF4 HKEEP
              go_wp2_with fail
              go_roundw
              case rel => exact ⟨j + 1, s, B3, k3, c3, hjk, by go_num, HON2.out, HBX3.out, HRB3.out, HN3.out, HK3.out, HBA3.out, HGN2.out, HGO2.out⟩
              case measure =>
                simp [intOf]
                exact hms
      · have hfl : fs.drop j = [] := List.drop_eq_nil_of_le (by rw [← HROWS.out, List.length_map, ← HRD.out.len]; omega)
        have HYES : Hid (readS xs = some (last, xs.length - rl)) := by unfold Hid; rw [HRS2.out, HGO.out, hfl, readGo]; rfl
        have hz4 : wr.heap[w.heap.size]? = some (.cells #[.int .i64 0, .int .i64 0, .int .i64 0, .slice none 0 0] 29) := by
          rw [HON.out.block _ (by have := HSZ1.out; omega) (by omega), HLB.out.block _ hwz1]
          exact HZ1.out
        have HZ4 := Lib.hid hz4
        obtain ⟨z0, z1, z2, z3, zf⟩ := box4 hz4
        obtain ⟨l0, l1, l2, l3, lf⟩ := box4 HBX2.out.is
        have HBF4 : Hid (Below w.heap.size w wr) := by
          have q1 := HBF1.out.trans (HLB.out.mono HBF1.out.size)
          exact q1.trans (HON.out.below q1.size fun i hi => by omega)
        have HML : Hid (∃ m : Nat, m = xs.length - rl ∧ (n : Int) - rl = (m : Int) ∧ m ≤ xs.length) := ⟨xs.length - rl, rfl, by have := HRL.out; have := HNL.out; omega, by omega⟩
        obtain ⟨m, hm1, hm2, hm3⟩ := HML.out
        clear hz4 hfl
        go_wp2
        obtain ⟨hs1, hs2⟩ := set4 HZ4.out (.int .i64 last.gen) (.int .i64 last.app) (.int .i64 last.next) (.slice B kk cc)
        obtain ⟨y0, y1, y2, y3, _⟩ := box4 hs1
        have hbf := HBF4.out.trans (hs2.below HBF4.out.size (fun i hi => Nat.le_of_eq hi.symm))
        have hrf := HRB.out.only hs2 fun a ha he => by have h8 := (HBA.out a ha).2; have he' : a.block = w.heap.size := he; omega
        rw [hm2]
        refine bodyPost_ret (v := .tuple #[.agg #[.int .i64 last.gen, .int .i64 last.app, .int .i64 last.next, .slice B kk cc], .int .i64 m, .int .i64 0]) (by simp [results, Try.results13, go_sem, y0, y1, y2, y3]; try rfl) rfl ⟨hbf, .inr ⟨last, m, B, kk, cc, by rw [HYES.out, hm1], hm3, rfl, hrf, HBN.out, HKK.out, fun a ha => (HBA.out a ha).2⟩⟩
end Go.Proofs.Ytideokbaenkijaa
