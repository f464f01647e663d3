/-
  (*Disk).Write.
-/
import Derived.Test.YtideokbaenkijaaSWrite
namespace Go.Proofs.Ytideokbaenkijaa
open Go.RowKit Go.Maps

def fitsB (D : DiskD) (n : Nat) : Bool := decide (n ≤ D.limit - sizeL D.files)
def DiskD.write (D : DiskD) (name : ByteArray) (ys : List Int) (new : Nat) : DiskD := if rightB name && fitsB D ys.length then match findD D.files name with
  | some f => D.grow f.id ys
  | none => (D.put name new).grow new ys else D
def writeE (D : DiskD) (name : ByteArray) (n : Nat) : Int := if rightB name then (if fitsB D n then 0 else 21) else 10
theorem DiskD.Ok.write {D : DiskD} (h : D.Ok) {name : ByteArray} {ys : List Int} {new : Nat} (hi : ∀ f ∈ D.files, f.id ≠ new) : (D.write name ys new).Ok := by
  unfold DiskD.write
  split
  case isFalse => exact h
  case isTrue hb =>
    unfold rightB fitsB at hb
    simp only [Bool.and_eq_true, decide_eq_true_eq] at hb
    obtain ⟨⟨h1, h2⟩, h3⟩ := hb
    have hfit := h.fits
    split
    · rename_i f hf
      exact h.grow ⟨f, (findD_some hf).1, rfl⟩ (by omega)
    · rename_i hf
      refine (h.put (findD_none hf) hi h1 h2).grow ⟨⟨name, new, [], 0, false⟩, by simp [DiskD.put], rfl⟩ ?_
      show sizeL (D.files ++ [_]) + _ ≤ D.limit
      rw [size_app]
      show sizeL D.files + 0 + _ ≤ _
      omega
/-- Behind a write. -/
def WriteOut (S : Nat → Prop) (w : World) (bd : Nat) (D : DiskD) (name : ByteArray) (ys : List Int) (e : Ending) (w' : World) : Prop :=
  e = .returned (.int .i64 (writeE D name ys.length)) ∧ (∃ new, (D.write name ys new).Ok ∧ DiskAt (Plus S w.heap.size) w' bd (D.write name ys new)) ∧ Only S w w'

set_option maxHeartbeats 2000000 in
set_option maxRecDepth 20000 in
theorem write_calls (S : Nat → Prop) (bd : Nat) (D : DiskD) (name : ByteArray) (B : Option Addr) (m cm : Nat) (ys : List Int) (w : World) (h : DiskAt S w bd D) (hok : D.Ok) (hy : RdB w B m ys) (hB : B = none → cm = 0)
    (hl : D.loose.length ≤ 1000000) (hfl : D.files.length ≤ 1000000) (hs : name.size ≤ maxLen) (hm : m ≤ 1000000000) :
    Calls Try.prog 45 #[.pointer (some ⟨bd, 0, none⟩), .string name, .slice B m cm] w (WriteOut S w bd D name ys) := by
  have HRT := Lib.hid (rightn_calls name)
  have HRM := Lib.hid (room_calls S bd D w h hok)
  have HD := Lib.hid h
  have HOK := Lib.hid hok
  have HY := Lib.hid hy
  have hml := Lib.hid hy.len
  have f1 := hok.fits
  have f2 := hok.small
  clear h hok hy
  cases hb : rightB name with
  | false =>
    have HBF := Lib.hid hb
    go_enter Try.func45, Try.ntmps45
    go_wp2_with fail
    refine (HRT.out _).mono ?_
    rintro e wz ⟨rfl, hz⟩
    obtain rfl : w = wz := hz.symm
    rw [hb]
    clear hb HRT
    go_wp2
    go_ret
    have he : D.write name ys 0 = D := by unfold DiskD.write; rw [HBF.out]; rfl
    refine ⟨by unfold writeE; rw [HBF.out]; rfl, ⟨0, by rw [he]; exact HOK.out, by rw [he]; exact HD.out.mono fun k hk => .inl hk⟩, Only.refl _ _⟩
  | true =>
  cases hfit : fitsB D ys.length with
  | false =>
    have HBF := Lib.hid hb
    have HFT := Lib.hid hfit
    have f3 : (m : Int) > (D.limit : Int) - sizeL D.files := by
      unfold fitsB at hfit
      have := of_decide_eq_false hfit
      have := hml.out
      omega
    clear hfit
    go_enter Try.func45, Try.ntmps45
    go_wp2_with fail
    refine (HRT.out _).mono ?_
    rintro e wz ⟨rfl, hz⟩
    obtain rfl : w = wz := hz.symm
    rw [hb]
    clear hb HRT
    go_wp2_with fail
    refine HRM.out.mono ?_
    rintro e w1 ⟨rfl, hb1⟩
    have HB1 := Lib.hid hb1
    clear hb1 HRM
    go_wp2
    go_ret
    have he : D.write name ys 0 = D := by unfold DiskD.write; rw [HBF.out, HFT.out]; rfl
    refine ⟨by unfold writeE; rw [HBF.out, HFT.out]; rfl, ⟨0, by rw [he]; exact HOK.out, by rw [he]; exact (HD.out.below HB1.out).mono fun k hk => .inl hk⟩, HB1.out.only _⟩
  | true =>
  have HBF := Lib.hid hb
  have HFT := Lib.hid hfit
  have f3 : ¬ (m : Int) > (D.limit : Int) - sizeL D.files := by
    unfold fitsB at hfit
    have := of_decide_eq_true hfit
    have := hml.out
    omega
  clear hfit
  cases hf : findD D.files name with
  | some f =>
    have HF := Lib.hid hf
    clear hf
    go_enter Try.func45, Try.ntmps45
    go_wp2_with fail
    refine (HRT.out _).mono ?_
    rintro e wz ⟨rfl, hz⟩
    obtain rfl : w = wz := hz.symm
    rw [hb]
    clear hb HRT
    go_wp2_with fail
    refine HRM.out.mono ?_
    rintro e w1 ⟨rfl, hb1⟩
    obtain ⟨bm, LA, lc, hh, M, k⟩ := HD.out.below hb1
    have hrun := look_run k.core.map k.reads name hs
    rw [HF.out] at hrun
    unfold ptrOf at hrun
    obtain ⟨c0, c1, c2, fz⟩ := k.core.cells
    obtain ⟨hfm, hfn⟩ := findD_some HF.out
    obtain ⟨d0, d1, d2, gz⟩ := (k.files.at_ f hfm).cells
    have hown := (k.files.at_ f hfm).own
    have hlen : f.xs.length ≤ 16777216 := Nat.le_trans (size_mem hfm) (Nat.le_trans f1 f2)
    have hRD := HY.out.below hb1
    have HB1 := Lib.hid hb1
    have HK := Lib.hid k
    have HFM := Lib.hid hfm
    clear hb1 HRM k hfm hfn
    have hne : ¬ (hh f.id).1 = some ⟨f.id, 0, none⟩ := fun e => by
      rw [e] at hown
      exact own_ne hown (HK.out.files.at_ f HFM.out).head (by decide) rfl
    have HNE := Lib.hid hne
    have HOWN := Lib.hid hown
    have HRD := Lib.hid hRD
    clear hne hown hRD
    go_wp2_with (first
      | (at_builtin; refine app_bytesn rfl (.tmp 38) (.tmp 39) rfl rfl HOWN.out rfl hB HRD.out (by omega) (Nat.zero_le _) ?_; intro A' cap' w2 h1 h2 h3 h4
         have H2 := Lib.hid (lies_data HK.out HOK.out.ids HFM.out hml.out h1 h2 h3)
         have g1 := h2.cell d0 HNE.out
         have g2 : w2.frozen? ⟨f.id, 0, none⟩ = false := (only_frozen h2 (lt_of_cell d0) HNE.out).trans (gz 0)
         have e1 : (w2.setCell ⟨f.id, 0, none⟩ (.slice A' (f.xs.length + m) cap')).cell? ⟨bd, 1, none⟩ = some (.slice LA D.loose.length lc) := H2.out.1.core.cells.2.1
         have HL2 : Hid (OwnW (w2.setCell ⟨f.id, 0, none⟩ (.slice A' (f.xs.length + m) cap')) 0 LA D.loose.length lc D.loose) := H2.out.1.core.own
         have HH2 := Lib.hid H2.out.1.core.head
         clear h1 h2 h3 h4 d0 d1 d2 gz c0 c1 c2 fz)
      | (at_builtin; refine app_write rfl (.tmp 47) (.tmp 52) rfl (f.id, m) rfl HL2.out (by simp) rfl hl (Nat.zero_le _) ?_; intro g cap2 w4 k1 k2 k3 k4
         have H4 := Lib.hid (lies_loose H2.out.1 (p := (f.id, m)) k1 k2 k3)
         have hnl : ¬ LA = some ⟨bd, 0, none⟩ := fun e => own_ne (by have := HL2.out; rw [e] at this; exact this) HH2.out (by decide) rfl
         have g3 := k2.cell e1 hnl
         have g4 : w4.frozen? ⟨bd, 1, none⟩ = false := Lib.frozen_of_heap (k2.keep HH2.out hnl) 1
         clear k1 k2 k3 k4 e1 hnl)
      | fail)
    go_ret
    have he : D.write name ys 0 = { ({ D with files := updD f.id (addF ys) D.files } : DiskD) with loose := D.loose ++ [(f.id, m)] } := by
      unfold DiskD.write
      rw [HBF.out, HFT.out, HF.out, hml.out]
      rfl
    have hs1 := HB1.out.size
    have hs2 := H2.out.2.size
    refine ⟨by unfold writeE; rw [HBF.out, HFT.out]; rfl, ⟨0, ?_, ?_⟩, (HB1.out.only S).trans (H2.out.2.trans' H4.out.2 fun i hi => ?_)⟩
    · rw [he, hml.out]
      exact HOK.out.grow ⟨f, HFM.out, rfl⟩ (by have := of_decide_eq_true HFT.out; omega)
    · rw [he]
      exact DiskAt.mono ⟨_, _, _, _, _, H4.out.1⟩ (plus_plus hs1 (Nat.le_trans hs1 hs2))
    · exact hi
  | none =>
    have HF := Lib.hid hf
    clear hf
    go_enter Try.func45, Try.ntmps45
    go_wp2_with fail
    refine (HRT.out _).mono ?_
    rintro e wz ⟨rfl, hz⟩
    obtain rfl : w = wz := hz.symm
    rw [hb]
    clear hb HRT
    go_wp2_with fail
    refine HRM.out.mono ?_
    rintro e w1 ⟨rfl, hb1⟩
    obtain ⟨bm, LA, lc, hh, M, k⟩ := HD.out.below hb1
    have hrun := look_run k.core.map k.reads name hs
    rw [HF.out] at hrun
    unfold ptrOf at hrun
    obtain ⟨c0, c1, c2, fz⟩ := k.core.cells
    obtain ⟨hb2, cv⟩ := one_box w1 #[.slice none 0 0, .int .i64 0, .bool false] 84
    have c02 := below_cell hb2 (Nat.le_refl _) c0
    have hmap2 := map_only k.core.map (hb2.only fun _ => False) (fun h => h)
    have hsz := size_len k.reads hfl
    have hRD := (HY.out.below hb1).below hb2
    have HM2 := Lib.hid hmap2
    have HRD := Lib.hid hRD
    have HB1 := Lib.hid hb1
    have HB2 := Lib.hid hb2
    have HK := Lib.hid k
    have hrs : 1 ≤ name.size ∧ name.size ≤ 16 := by
      have := HBF.out
      unfold rightB at this
      simpa using this
    have HPUT := Lib.hid (HOK.out.put (findD_none HF.out) (id := w1.heap.size) (fun q hq e => by have := (k.files.at_ q hq).lt; omega) hrs.1 hrs.2)
    clear hb1 HRM k hRD hmap2 hb2 cv hrs
    go_wp2_with (first
      | (at_mapUpdate; refine wpList_mapUpdate_in _ rfl _ _ _ 73 rfl 9 82 keyedS Try.underlying73 ptrE bm _ M rfl HM2.out (by unfold maxLen; omega) _ _ (keyS name) rfl rfl (keyS_of hs) (.lit (.int .i64 w1.heap.size)) [] rfl ?_; intro w3 hown3 hturn3
         obtain ⟨f, h3, hfe, hfm, hh3, hlie, hon3⟩ := lies_put' HK.out (findD_none HF.out) hown3 (turned_only hturn3)
         have hfid : f.id = w1.heap.size := by rw [hfe]
         have hfxs : f.xs = [] := by rw [hfe]
         have HRD3 := Lib.hid (rd_turn HRD.out HM2.out (turned_only hturn3))
         have hfa := hlie.files.at_ f hfm
         rw [hfid, hh3] at hfa
         have d0 : w3.cell? ⟨w1.heap.size, 0, none⟩ = some (.slice none 0 0) := by
           have := hfa.cells.1
           rw [hfid, hfxs] at this
           exact this
         have gz : w3.frozen? ⟨w1.heap.size, 0, none⟩ = false := by
           have := hfa.cells.2.2.2 0
           rw [hfid] at this
           exact this
         have HLIE := Lib.hid hlie
         have HON3 := Lib.hid hon3
         have HFE := Lib.hid hfe
         have HFM := Lib.hid hfm
         have HH3 := Lib.hid hh3
         have HFI := Lib.hid hfid
         have HFX := Lib.hid hfxs
         clear hown3 hturn3 hlie hfa hfid hfxs hh3 hfm hfe hon3 c0 c02 c1 c2 fz)
      | (at_builtin; refine app_bytesn (base := 0) (n := 0) (cap := 0) (A := none) (xs := []) rfl (.tmp 38) (.tmp 39) rfl rfl (Own.nil _ _ _ _ _) rfl hB HRD3.out (by omega) (Nat.zero_le _) ?_; intro A' cap' w4 k1 k2 k3 k4
         have hfl0 : f.xs.length + m = m := by rw [HFX.out]; simp
         have h2 := lies_data HLIE.out HPUT.out.ids HFM.out (A' := A') (cap' := cap') (w1 := w4) (ys := ys) hml.out (by rw [HFX.out]; exact k1) (by rw [HFI.out, HH3.out]; exact k2) (by rw [HFI.out, HH3.out]; exact k3)
         rw [hfl0, HFI.out] at h2
         have g1 := k2.cell d0 (fun e => by cases e)
         have g2 : w4.frozen? ⟨w1.heap.size, 0, none⟩ = false := (only_frozen k2 (lt_of_cell d0) (fun e => by cases e)).trans gz
         have e1 : (w4.setCell ⟨w1.heap.size, 0, none⟩ (.slice A' m cap')).cell? ⟨bd, 1, none⟩ = some (.slice LA D.loose.length lc) := h2.1.core.cells.2.1
         have HL2 : Hid (OwnW (w4.setCell ⟨w1.heap.size, 0, none⟩ (.slice A' m cap')) 0 LA D.loose.length lc D.loose) := h2.1.core.own
         have HH2 := Lib.hid h2.1.core.head
         have H2 := Lib.hid h2
         rw [Nat.zero_add m]
         clear k1 k2 k3 k4 hfl0 h2 d0 gz)
      | (at_builtin; refine app_write rfl (.tmp 47) (.tmp 52) rfl (w1.heap.size, m) rfl HL2.out (by simp) rfl hl (Nat.zero_le _) ?_; intro g cap2 w5 k1 k2 k3 k4
         have H4 := Lib.hid (lies_loose H2.out.1 (p := (w1.heap.size, m)) k1 k2 k3)
         have hnl : ¬ LA = some ⟨bd, 0, none⟩ := fun e => own_ne (by have := HL2.out; rw [e] at this; exact this) HH2.out (by decide) rfl
         have g3 := k2.cell e1 hnl
         have g4 : w5.frozen? ⟨bd, 1, none⟩ = false := Lib.frozen_of_heap (k2.keep HH2.out hnl) 1
         clear k1 k2 k3 k4 e1 hnl)
      | fail)
    go_ret
    have he : D.write name ys w1.heap.size = { ({ D.put name w1.heap.size with files := updD w1.heap.size (addF ys) (D.put name w1.heap.size).files } : DiskD) with loose := D.loose ++ [(w1.heap.size, m)] } := by
      unfold DiskD.write
      rw [HBF.out, HFT.out, HF.out, hml.out]
      rfl
    have hs1 := HB1.out.size
    have hs3 := HON3.out.size
    have hs2 := H2.out.2.size
    refine ⟨by unfold writeE; rw [HBF.out, HFT.out]; rfl, ⟨w1.heap.size, ?_, ?_⟩, ?_⟩
    · rw [he, hml.out]
      refine HPUT.out.grow ⟨f, HFM.out, HFI.out⟩ ?_
      show sizeL (D.files ++ [_]) + _ ≤ D.limit
      rw [size_app]
      show sizeL D.files + 0 + _ ≤ _
      have := of_decide_eq_true HFT.out
      omega
    · rw [he]
      exact DiskAt.mono ⟨_, _, _, _, _, H4.out.1⟩ (plus_plus3 hs1 (Nat.le_trans hs1 hs3) (Nat.le_trans hs1 (Nat.le_trans hs3 hs2)))
    · refine (HB1.out.only S).trans (HON3.out.trans' (H2.out.2.trans' H4.out.2 fun i hi => hi) fun i hi => hi)
end Go.Proofs.Ytideokbaenkijaa
