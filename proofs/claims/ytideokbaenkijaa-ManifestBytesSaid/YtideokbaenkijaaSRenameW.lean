/-
  (*Disk).Rename.
-/
import Derived.Test.YtideokbaenkijaaSRename
namespace Go.Proofs.Ytideokbaenkijaa
open Go.RowKit Go.Maps

theorem size_len {fs : List FileD} {M : DataW Unit} (h : Reads M fs) {n : Nat} (hn : fs.length ≤ n) : Maps.size M ≤ n := by rw [h.size]; exact hn
set_option maxHeartbeats 2000000 in
theorem rename_calls (S : Nat → Prop) (bd : Nat) (D : DiskD) (a b : ByteArray) (w : World) (h : DiskAt S w bd D) (hok : D.Ok) (hl : D.loose.length ≤ 1000000) (hfl : D.files.length ≤ 1000000) (hs : a.size ≤ maxLen) (hs2 : b.size ≤ maxLen) :
    Calls Try.prog 58 #[.pointer (some ⟨bd, 0, none⟩), .string a, .string b] w fun e w' => e = .returned (.int .i64 (renameE D.files a b)) ∧ DiskAt S w' bd (D.rename a b) ∧ Only S w w' := by
  have HRT := Lib.hid (rightn_calls b)
  obtain ⟨bm, LA, lc, hh, M, k1, k2, k3, k4, k5⟩ := h
  have hrun := look_run k1.map k3 a hs
  obtain ⟨c0, c1, c2, fz⟩ := k1.cells
  cases hb : rightB b with
  | false =>
    have HL : Hid (DiskAt S w bd D) := ⟨bm, LA, lc, hh, M, k1, k2, k3, k4, k5⟩
    have HBF := Lib.hid hb
    clear k1 k2 k3 k4 k5
    go_enter Try.func58, Try.ntmps58
    go_wp2_with fail
    refine (HRT.out _).mono ?_
    rintro e wz ⟨rfl, hz⟩
    obtain rfl : w = wz := hz.symm
    rw [hb]
    clear hb HRT
    go_wp2
    go_ret
    unfold renameE DiskD.rename
    rw [HBF.out]
    exact ⟨rfl, HL.out, Only.refl _ _⟩
  | true =>
  cases hf : findD D.files a with
  | none =>
    rw [hf] at hrun
    have HL : Hid (DiskAt S w bd D) := ⟨bm, LA, lc, hh, M, k1, k2, k3, k4, k5⟩
    have HBF := Lib.hid hb
    have HF := Lib.hid hf
    clear k1 k2 k3 k4 k5 hf
    unfold ptrOf at hrun
    go_enter Try.func58, Try.ntmps58
    go_wp2_with fail
    refine (HRT.out _).mono ?_
    rintro e wz ⟨rfl, hz⟩
    obtain rfl : w = wz := hz.symm
    rw [hb]
    clear hb HRT
    go_wp2
    go_ret
    unfold renameE DiskD.rename goneE
    rw [HBF.out, HF.out]
    exact ⟨rfl, HL.out, Only.refl _ _⟩
  | some f =>
    rw [hf] at hrun
    obtain ⟨hfm, rfl⟩ := findD_some hf
    have HK1 := Lib.hid k1
    have HK2 := Lib.hid k2
    have HK3 := Lib.hid k3
    have HK4 := Lib.hid k4
    have HK5 := Lib.hid k5
    have HF := Lib.hid hf
    have HFM := Lib.hid hfm
    have HOK := Lib.hid hok
    have HBF := Lib.hid hb
    clear k1 k2 k3 k4 k5 hf hfm hok
    unfold ptrOf at hrun
    go_enter Try.func58, Try.ntmps58
    go_wp2_with fail
    refine (HRT.out _).mono ?_
    rintro e wz ⟨rfl, hz⟩
    obtain rfl : w = wz := hz.symm
    rw [hb]
    clear hb HRT
    go_wp2_with (at_delete; refine wpList_delete_own _ rfl _ _ 73 9 rfl 82 keyedS Try.underlying73 _ bm _ M rfl HK1.out.map _ _ rfl (keyS_of hs) ?_; intro w1 hown1 hturn1)
    have hturn := turned_only hturn1
    have hmine1 : Only (Mine bd bm LA) w w1 := hturn.mono fun k _ hk => .inr (.inl hk)
    have hcore1 := HK1.out.turn hturn hown1
    have hfiles1 := HK2.out.mine HK1.out hmine1
    have hreads1 := HK3.out.del HK1.out.tidy HFM.out HOK.out.names HOK.out.ids
    have hrem := rem_calls bd bm lc D.limit LA _ D.loose _ b w1 hcore1 hreads1 (HOK.out.names.filter _) (HOK.out.ids.filter _) (hfiles1.alive HOK.out) (fun q hq => (hfiles1.at_ q (mem_strike.1 hq).1).alive) hl hs2
    have HM1 := Lib.hid hmine1
    have HC1 := Lib.hid hcore1
    have HF1 := Lib.hid hfiles1
    clear hturn hturn1 hown1 hmine1 hcore1 hfiles1 hreads1 c0 c1 c2 fz
    refine hrem.mono ?_
    clear hrem
    rintro e w2 ⟨rfl, ⟨M2, hc2, hr2⟩, ho2⟩
    obtain ⟨c0, c1, c2, fz⟩ := hc2.cells
    have hfiles2 := HF1.out.mine HC1.out ho2
    obtain ⟨d0, d1, d2, gz⟩ := (hfiles2.at_ f HFM.out).cells
    -- the file stays
    have hw3 : Only (Its f.id (hh f.id).1) w2 (w2.setCell ⟨f.id, 2, none⟩ (.bool true)) := (only_setCell w2 ⟨f.id, 2, none⟩ _).mono fun k _ hk => .inl hk
    have hfa := hfiles2.at_ f HFM.out
    have hnew : FileAt (w2.setCell ⟨f.id, 2, none⟩ (.bool true)) (nameF b f) (hh f.id).1 (hh f.id).2 :=
      ⟨heap_setCell_same _ f.id 2 _ _ _ hfa.head, hfa.own.only (only_setCell w2 ⟨f.id, 2, none⟩ _) fun g hg e => by
        have := hfa.own
        rw [hg] at this
        exact own_ne this hfa.head (by decide) e.symm⟩
    have hfiles3 := hfiles2.upd HOK.out.ids HFM.out (g := nameF b) (fun _ => rfl) hnew hw3 (fun r hr => .inl hr)
    have hcore3 := hc2.file hfa hw3
    have hne : f.id ≠ bd := block_ne hfa.head hc2.head (by decide)
    have c03 : (w2.setCell ⟨f.id, 2, none⟩ (.bool true)).cell? ⟨bd, 0, none⟩ = some (.map (some bm)) := (only_setCell w2 ⟨f.id, 2, none⟩ _).cell c0 fun e => hne e.symm
    have hsz : Maps.size M2 ≤ 1000000 := size_len hr2 (Nat.le_trans (Nat.le_trans gone_len (List.length_filter_le _ _)) hfl)
    have HO2 := Lib.hid (HM1.out.trans ho2)
    have HR2 := Lib.hid hr2
    have HW3 := Lib.hid hw3
    have HF3 := Lib.hid hfiles3
    have HC3 := Lib.hid hcore3
    have HNE := Lib.hid hne
    clear hc2 hr2 ho2 hfiles2 hw3 hfa hnew hfiles3 hcore3 hne c1 c2 d0 d1
    go_wp2_with (at_mapUpdate; refine wpList_mapUpdate_in _ rfl _ _ _ 73 rfl 9 82 keyedS Try.underlying73 ptrE bm _ M2 rfl HC3.out.map (by unfold maxLen; omega) _ _ (keyS b) rfl rfl (keyS_of hs2) (.lit (.int .i64 f.id)) [] rfl ?_; intro w4 hown4 hturn4)
    have hturn := turned_only hturn4
    have hm4 : Only (Mine bd bm LA) _ w4 := hturn.mono fun k _ hk => .inr (.inl hk)
    have hcore4 := HC3.out.turn hturn hown4
    have hfiles4 := HF3.out.mine HC3.out hm4
    have hreads4 := HR2.out.put HC3.out.tidy (f := nameF b f) (gone_name (HOK.out.names.filter _))
    have HM4 := Lib.hid hm4
    have HC4 := Lib.hid hcore4
    have HF4 := Lib.hid hfiles4
    have HR4 := Lib.hid hreads4
    clear hturn hturn4 hown4 hm4 hcore4 hfiles4 hreads4 c0 c03 fz d2 gz
    go_ret
    unfold renameE goneE DiskD.rename
    rw [HBF.out, HF.out]
    have hsub : ∀ q ∈ (gone (strikeD f.id D.files) D.loose b).1 ++ [nameF b f], q ∈ updD f.id (nameF b) D.files := fun q hq => by
      rcases List.mem_append.1 hq with hq | hq
      · obtain ⟨q1, q2⟩ := mem_strike.1 (gone_mem hq)
        have := updD_mem (id := f.id) (g := nameF b) q1
        rwa [if_neg q2] at this
      · have := updD_mem (id := f.id) (g := nameF b) HFM.out
        rw [if_pos rfl] at this
        rw [List.mem_singleton.1 hq]
        exact this
    refine ⟨rfl, ⟨bm, LA, lc, _, _, HC4.out, HF4.out.sub hsub, HR4.out, HK4.out, fun q hq => ?_⟩, ?_⟩
    · show S q.id ∧ ∀ g, (if q.id = f.id then ((hh f.id).1, (hh f.id).2) else hh q.id).1 = some ⟨g, 0, none⟩ → S g
      rcases List.mem_append.1 hq with hq | hq
      · obtain ⟨q1, q2⟩ := mem_strike.1 (gone_mem hq)
        rw [if_neg q2]
        exact HK5.out q q1
      · rw [List.mem_singleton.1 hq]
        rw [if_pos (show (nameF b f).id = f.id from rfl)]
        exact HK5.out f HFM.out
    · refine (HO2.out.mono fun k _ hk => HK4.out k hk).trans ((HW3.out.mono fun k _ hk => ?_).trans (HM4.out.mono fun k _ hk => HK4.out k hk))
      rcases hk with rfl | hk
      · exact (HK5.out f HFM.out).1
      · exact (HK5.out f HFM.out).2 k hk
end Go.Proofs.Ytideokbaenkijaa
