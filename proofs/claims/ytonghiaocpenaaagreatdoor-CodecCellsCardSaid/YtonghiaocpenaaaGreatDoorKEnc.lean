/-
  codec.Key, codec.Encode, codec.First.
-/
import Derived.Test.YtonghiaocpenaaaGreatDoorKKey
namespace Go.Proofs.YtonghiaocpenaaaGreatDoor
open Go.RowKit

/-- What codec's functions read that a call doesn't make. -/
structure Ground (w : World) : Prop where
  tabs : Lib.Utf8Tabs 0 1 w
  max : MaxAt w
theorem Ground.below {w w' : World} (h : Ground w) (hb : Below w.heap.size w w') : Ground w' := ⟨tabs_below h.tabs hb, h.max.below hb⟩
def BytesOr (ok : Bool) (xs : List Int) (w : World) (e : Ending) (w' : World) : Prop :=
  Below w.heap.size w w' ∧ ((ok = true ∧ ∃ A n cap, e = .returned (.tuple #[.slice A n cap, .bool true]) ∧ OwnB w' w.heap.size A n cap xs) ∨ (ok = false ∧ e = .returned (.tuple #[.slice none 0 0, .bool false])))
theorem esc_ne (s : ByteArray) (l : List Int) : escL s ++ l ≠ [] := by unfold escL; simp
theorem key_small {c : Cell} (h : c.ok = true) : (keyL c).length ≤ 200 := by
  obtain ⟨hr0, hr1, hf, hq, ht0, ht1, hk⟩ := ok_parts h
  obtain ⟨hf0, hf1⟩ := name_small hf
  have es1 := esc_size c.row
  have es2 := esc_size c.fam
  have es3 := esc_size c.qual
  have h8 : (eightL (9223372036854775807 - c.time)).length = 8 := rfl
  unfold keyL
  simp only [List.length_append, h8, List.length_cons, List.length_nil]
  split
  · simp only [List.length_cons, List.length_nil]; omega
  · omega

set_option maxHeartbeats 1000000 in
set_option maxRecDepth 20000 in
theorem ckey_calls (c : Cell) (w : World) (hc : c.fits) (hG : Ground w) : Calls Tryz.prog 7 #[c.v] w (BytesOr c.ok (keyL c) w) := by
  obtain ⟨hB, cb⟩ := one_box w c.cells 25
  have hr := right_calls c (w.alloc (.cells c.cells 25)) hc (hG.below hB).tabs
  have b0 : (w.alloc (.cells c.cells 25)).cell? ⟨w.heap.size, 0, none⟩ = some (.string c.row) := cb 0 _ rfl
  have b1 : (w.alloc (.cells c.cells 25)).cell? ⟨w.heap.size, 1, none⟩ = some (.string c.fam) := cb 1 _ rfl
  have b2 : (w.alloc (.cells c.cells 25)).cell? ⟨w.heap.size, 2, none⟩ = some (.string c.qual) := cb 2 _ rfl
  have b3 : (w.alloc (.cells c.cells 25)).cell? ⟨w.heap.size, 3, none⟩ = some (.int .i64 c.time) := cb 3 _ rfl
  have b4 : (w.alloc (.cells c.cells 25)).cell? ⟨w.heap.size, 4, none⟩ = some (.int .i64 c.kind) := cb 4 _ rfl
  have b5 : (w.alloc (.cells c.cells 25)).cell? ⟨w.heap.size, 5, none⟩ = some (.int .i64 c.vk) := cb 5 _ rfl
  have b6 : (w.alloc (.cells c.cells 25)).cell? ⟨w.heap.size, 6, none⟩ = some (.int .i64 c.vn) := cb 6 _ rfl
  have b7 : (w.alloc (.cells c.cells 25)).cell? ⟨w.heap.size, 7, none⟩ = some (.string c.vs) := cb 7 _ rfl
  have HR := Lib.hid hr
  have HB := Lib.hid hB
  clear cb hr hB hG
  go_enter Tryz.func7, Tryz.ntmps7
  go_wp2_with fail
  refine HR.out.mono ?_
  rintro e w2 ⟨rfl, hb2⟩
  have HB2 := Lib.hid (HB.out.trans (hb2.mono HB.out.size))
  cases hok : c.ok with
  | false =>
    clear hb2 b0 b1 b2 b3 b4 b5 b6 b7
    go_wp2
    go_ret2
    exact ⟨HB2.out, .inr ⟨hok, rfl⟩⟩
  | true =>
    have HOK := Lib.hid hok
    have hsz2 := hb2.size
    have hlt := lt_of_cell b0
    have c0 := below_cell hb2 (Nat.le_refl _) b0
    have c1 := below_cell hb2 (Nat.le_refl _) b1
    have c2 := below_cell hb2 (Nat.le_refl _) b2
    have c3 := below_cell hb2 (Nat.le_refl _) b3
    have c4 := below_cell hb2 (Nat.le_refl _) b4
    have c5 := below_cell hb2 (Nat.le_refl _) b5
    have c6 := below_cell hb2 (Nat.le_refl _) b6
    have c7 := below_cell hb2 (Nat.le_refl _) b7
    have hw0 : Wr w2.heap.size w2.heap.size [] (w2.alloc (.cells #[.slice none 0 0, .int .i64 0, .int .i8 0] 54)) := LibA.of_whole (Lib.fresh_isBuffer 54 5 w2)
    have hb3 : Below w2.heap.size w2 (w2.alloc (.cells #[.slice none 0 0, .int .i64 0, .int .i8 0] 54)) := (Below.refl _ _).alloc (Nat.le_refl _) _
    have HW0 := Lib.hid hw0
    have HB3 := Lib.hid hb3
    have d0 := below_cell hb3 (Nat.le_refl _) c0
    have d1 := below_cell hb3 (Nat.le_refl _) c1
    have d2 := below_cell hb3 (Nat.le_refl _) c2
    have d3 := below_cell hb3 (Nat.le_refl _) c3
    have d4 := below_cell hb3 (Nat.le_refl _) c4
    have d5 := below_cell hb3 (Nat.le_refl _) c5
    have d6 := below_cell hb3 (Nat.le_refl _) c6
    have d7 := below_cell hb3 (Nat.le_refl _) c7
    clear hok hw0 hb3 hb2 b0 b1 b2 b3 b4 b5 b6 b7 c0 c1 c2 c3 c4 c5 c6 c7 hlt
    go_wp2_with fail
    refine (key_calls _ _ c _ HW0.out HB3.out.size HOK.out).mono ?_
    rintro e w4 ⟨rfl, hw4, hb4, -⟩
    have HW4 := Lib.hid hw4
    have HB4 := Lib.hid (HB3.out.trans hb4)
    clear hw4 hb4 HW0 HB3 d0 d1 d2 d3 d4 d5 d6 d7
    go_wp2_with fail
    refine (bytes_calls _ _ _ _ HW4.out (esc_ne _ _)).mono ?_
    rintro e w5 ⟨g, cap, rfl, hown, hb5⟩
    have HOWN := Lib.hid hown
    have HB5 := Lib.hid (HB4.out.trans (hb5.mono HB4.out.size))
    have HKS := Lib.hid (key_small HOK.out)
    clear hown hb5 HB4 HW4
    obtain ⟨m, hm⟩ : ∃ m, m = (keyL c).length := ⟨_, rfl⟩
    rw [← hm] at HOWN HKS
    have HM := Lib.hid hm
    rw [← hm]
    clear hm
    go_wp2_with fail
    refine (bclone_calls _ m cap _ _ (HOWN.out.rd encB_len) ⟨_, rfl⟩ (by have := HKS.out; omega)).mono ?_
    rintro e w6 ⟨g6, cap6, rfl, hown6, hb6⟩
    have HOWN6 := Lib.hid hown6
    have HB6 := Lib.hid (HB5.out.trans (hb6.mono HB5.out.size))
    clear hown6 hb6
    go_wp2
    go_ret2
    have hbb : Below w.heap.size w w6 := HB2.out.trans (HB6.out.mono HB2.out.size)
    exact ⟨hbb, .inl ⟨HOK.out, some ⟨g6, 0, none⟩, m, cap6, rfl, HOWN6.out.lower (Nat.le_trans HB2.out.size HB5.out.size)⟩⟩

/-- A cell's bytes. -/
def encL (c : Cell) : List Int := keyL c ++ if c.kind = 1 then valL c.vk c.vn c.vs else []
theorem val_of_put {c : Cell} (h : c.ok = true) (hk : c.kind = 1) : valOk c.vk c.vn c.vs = true := by
  have := (ok_parts h).2.2.2.2.2.2
  unfold kindOk at this
  rwa [if_pos hk] at this

set_option maxHeartbeats 1000000 in
set_option maxRecDepth 20000 in
theorem cenc_calls (c : Cell) (w : World) (hc : c.fits) (hG : Ground w) : Calls Tryz.prog 9 #[c.v] w (BytesOr c.ok (encL c) w) := by
  obtain ⟨hB, cb⟩ := one_box w c.cells 25
  have hr := ckey_calls c (w.alloc (.cells c.cells 25)) hc (hG.below hB)
  have b0 : (w.alloc (.cells c.cells 25)).cell? ⟨w.heap.size, 0, none⟩ = some (.string c.row) := cb 0 _ rfl
  have b1 : (w.alloc (.cells c.cells 25)).cell? ⟨w.heap.size, 1, none⟩ = some (.string c.fam) := cb 1 _ rfl
  have b2 : (w.alloc (.cells c.cells 25)).cell? ⟨w.heap.size, 2, none⟩ = some (.string c.qual) := cb 2 _ rfl
  have b3 : (w.alloc (.cells c.cells 25)).cell? ⟨w.heap.size, 3, none⟩ = some (.int .i64 c.time) := cb 3 _ rfl
  have b4 : (w.alloc (.cells c.cells 25)).cell? ⟨w.heap.size, 4, none⟩ = some (.int .i64 c.kind) := cb 4 _ rfl
  have b5 : (w.alloc (.cells c.cells 25)).cell? ⟨w.heap.size, 5, none⟩ = some (.int .i64 c.vk) := cb 5 _ rfl
  have b6 : (w.alloc (.cells c.cells 25)).cell? ⟨w.heap.size, 6, none⟩ = some (.int .i64 c.vn) := cb 6 _ rfl
  have b7 : (w.alloc (.cells c.cells 25)).cell? ⟨w.heap.size, 7, none⟩ = some (.string c.vs) := cb 7 _ rfl
  have HR := Lib.hid hr
  have HB := Lib.hid hB
  have HG := Lib.hid hG
  have HC := Lib.hid hc
  clear cb hr hB hG hc
  go_enter Tryz.func9, Tryz.ntmps9
  go_wp2_with fail
  refine HR.out.mono ?_
  rintro e w2 ⟨hb2, ⟨hok, A, n, cap, rfl, hown⟩ | ⟨hok, rfl⟩⟩
  · have HB2 := Lib.hid (HB.out.trans (hb2.mono HB.out.size))
    have HSZ2 := Lib.hid hb2.size
    have HOK := Lib.hid hok
    have HOWN := Lib.hid hown
    have c4 := below_cell hb2 (Nat.le_refl _) b4
    have c5 := below_cell hb2 (Nat.le_refl _) b5
    have c6 := below_cell hb2 (Nat.le_refl _) b6
    have c7 := below_cell hb2 (Nat.le_refl _) b7
    clear hb2 b0 b1 b2 b3 b4 b5 b6 b7 hown
    by_cases hk : c.kind = 1
    · have HVO := Lib.hid (val_of_put hok hk)
      have HV := Lib.hid (venc_calls c.vk c.vn c.vs w2 HC.out.vn HC.out.vs (HG.out.below HB2.out).tabs (HG.out.below HB2.out).max)
      have HK := Lib.hid hk
      have HKS := Lib.hid (key_small hok)
      rw [hk] at c4
      clear hok hk
      go_wp2_with fail
      refine HV.out.mono ?_
      rintro e w3 ⟨hb3, ⟨hvo, A3, m, cap3, rfl, hown3⟩ | ⟨hvo, rfl⟩⟩
      · have HOWN3 := Lib.hid hown3
        have HOWN2 := Lib.hid (HOWN.out.below hb3)
        have HB3 := Lib.hid (HB2.out.trans (hb3.mono HB2.out.size))
        have hln := HOWN2.out.1
        have hlm := HOWN3.out.1
        have hvl : Hid (m ≤ 1000) := by
          have := plain_len c.vk c.vn c.vs HVO.out
          unfold Hid
          rw [hlm]
          show (plainL _ _ _).length + 1 ≤ 1000
          omega
        have hnl : Hid (n ≤ 1000) := by
          have := HKS.out
          unfold Hid; rw [hln]; omega
        have hnil : Hid (A3 = none → cap3 = 0) := fun hA => by
          rcases HOWN3.out.2.2 with ⟨h2, h3⟩ | ⟨g, cap', cur, h2, _⟩
          · injection h2
          · rw [hA] at h2; cases h2
        have hbase := Lib.hid (Nat.le_trans HSZ2.out hb3.size)
        clear hb3 hown3 hln hlm hvo
        go_wp2_with (at_builtin; refine app_bytes rfl (.tmp 25) (.tmp 26) rfl rfl HOWN2.out rfl hnil.out (HOWN3.out.rd encB_len) (by have := hnl.out; have := hvl.out; omega) hbase.out ?_; intro A' cap' w4 h1 h2 h3 h4)
        go_wp2
        go_ret2
        refine ⟨HB3.out.trans ((h2.below hbase.out (own_above HOWN2.out)).mono HB.out.size), .inl ⟨HOK.out, A', _, cap', rfl, ?_⟩⟩
        unfold encL
        rw [if_pos HK.out]
        exact h1.lower HB.out.size
      · rw [HVO.out] at hvo; cases hvo
    · have HK := Lib.hid hk
      clear hok
      go_wp2
      go_ret2
      refine ⟨HB2.out, .inl ⟨HOK.out, A, n, cap, rfl, ?_⟩⟩
      unfold encL
      rw [if_neg HK.out, List.append_nil]
      exact HOWN.out.lower HB.out.size
  · have HB2 := Lib.hid (HB.out.trans (hb2.mono HB.out.size))
    have HOK := Lib.hid hok
    clear hb2 b0 b1 b2 b3 b4 b5 b6 b7 hok
    go_wp2
    go_ret2
    exact ⟨HB2.out, .inr ⟨HOK.out, rfl⟩⟩

/-- What all keys of a row begin with. -/
def firstL (row : ByteArray) : List Int := escL row
end Go.Proofs.YtonghiaocpenaaaGreatDoor
