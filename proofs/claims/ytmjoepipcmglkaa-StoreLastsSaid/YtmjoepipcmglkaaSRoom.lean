/-
  (*Disk).Room, Names.
-/
import Derived.Test.YtmjoepipcmglkaaSSize
namespace Go.Proofs.Ytmjoepipcmglkaa
open Go.RowKit Go.Maps

set_option maxHeartbeats 1000000 in
theorem room_calls (S : Nat → Prop) (bd : Nat) (D : DiskD) (w : World) (h : DiskAt S w bd D) (hok : D.Ok) :
    Calls Try.prog 24 #[.pointer (some ⟨bd, 0, none⟩)] w fun e w' => e = .returned (.int .i64 ((D.limit : Int) - sizeL D.files)) ∧ Below w.heap.size w w' := by
  have hcall := Lib.hid fun X => calls_later (size_calls S bd D (w.later X) (h.below (later_below w X)) hok)
  obtain ⟨bm, LA, lc, hh, M, k1, k2, k3, k4, k5⟩ := h
  have c2 := later_cell k1.cells.2.2.1
  have h1 := hok.fits
  have h2 := hok.small
  have f1 : (D.limit : Int) ≤ 16777216 := by omega
  have f2 : (sizeL D.files : Int) ≤ (D.limit : Int) := by omega
  clear k1 k2 k3 k4 k5 hok
  go_enter Try.func24, Try.ntmps24
  go_wp2_with fail
  refine wp_region_later (by kernel_rfl) (by kernel_rfl) ?_
  repeat (go_big_quiet_step ((go_at_call 22; exact hcall.out _)))
  refine wpQuiet_nil ?_
  intro W1 hW1
  have hb1 : Below w.heap.size w W1 := by
    obtain ⟨X, rfl⟩ := hW1
    exact later_below w X
  have HB := Lib.hid hb1
  clear hW1 hb1 hcall c2
  go_wp2
  go_ret
  exact ⟨rfl, HB.out⟩

/-- A text's cell. -/
abbrev encS (s : ByteArray) : List Value := [.string s]
theorem encS_len (s : ByteArray) : (encS s).length = 1 := rfl
def mkB (l : List UInt8) : ByteArray := ⟨⟨l⟩⟩
/-- The names of files, in order. -/
def namesB (fs : List FileD) : List ByteArray := ((fs.map fun f => f.name.data.toList).mergeSort leB).map mkB
theorem enc_names : ∀ l : List (List UInt8), l.map encStr = (l.map mkB).flatMap encS
  | [] => rfl
  | x :: l => by
    rw [List.map_cons, List.map_cons, List.flatMap_cons, ← enc_names l]
    rfl
theorem names_perm (fs : List FileD) : (namesB fs).Perm (fs.map fun f => f.name) := by
  have h := (List.mergeSort_perm (fs.map fun f => f.name.data.toList) leB).map mkB
  rw [List.map_map] at h
  exact h
theorem names_len (fs : List FileD) : (namesB fs).length = fs.length := by
  rw [(names_perm fs).length_eq, List.length_map]
theorem names_mem {fs : List FileD} {s : ByteArray} : s ∈ namesB fs ↔ ∃ f ∈ fs, f.name = s := by
  rw [(names_perm fs).mem_iff, List.mem_map]
theorem reads_perm {w : World} {bm n : Nat} {M : DataW Unit} {fs : List FileD} (h : w.ownsMap Try.prog 9 ptrE bm n M) (hr : Reads M fs) (hn : fs.Pairwise fun a b => a.name ≠ b.name) : (fs.map fun f => f.name.data.toList).Perm (strKeys M) := by
  refine Collected.perm (left := fun _ => false) ⟨?_, fun x => ?_⟩ h keyedS Try.underlying9 fun _ => rfl
  · exact List.pairwise_map.2 (hn.imp fun {a b} hab e => hab (ByteArray.ext (Array.ext' e)))
  · rw [List.mem_map]
    constructor
    · rintro ⟨f, hf, rfl⟩
      exact ⟨has_true_of_atKey (hr.at_ f hf), rfl⟩
    · rintro ⟨hx, _⟩
      obtain ⟨f, hf, e⟩ := hr.has _ hx
      unfold keyS at e
      injection e with e
      exact ⟨f, hf, e.symm⟩

set_option maxHeartbeats 1000000 in
theorem names_calls (S : Nat → Prop) (bd : Nat) (D : DiskD) (w : World) (h : DiskAt S w bd D) (hok : D.Ok) (hl : D.files.length ≤ 1000000) :
    Calls Try.prog 19 #[.pointer (some ⟨bd, 0, none⟩)] w fun e w' => (∃ A cap, e = .returned (.slice A D.files.length cap) ∧ Own 9 1 encS w' w.heap.size A D.files.length cap (namesB D.files)) ∧ Below w.heap.size w w' := by
  obtain ⟨bm, LA, lc, hh, M, k1, k2, k3, k4, k5⟩ := h
  obtain ⟨c0, c1, c2, fz⟩ := k1.cells
  have hsz := size_len k3 hl
  have hp := reads_perm k1.map k3 hok.names
  have hK := Lib.hid (callsIn_wide.1 (Try.maps_Keys_39 (some bm) w))
  have hS := Lib.hid (callsIn_wide.1 (Try.slices_Sorted_keys_38_39 bm _ M ptrE w k1.map (by unfold maxLen; omega) (by omega)))
  have HP := Lib.hid hp
  have hb := (Below.refl w.heap.size w).alloc (Nat.le_refl _) (.cells #[.map (some bm)] 57)
  have HB := Lib.hid hb
  clear k1 k2 k3 k4 k5 hok hp hb
  go_enter Try.func19, Try.ntmps19
  go_wp2_with fail
  refine hK.out.mono ?_
  rintro e w1 ⟨rfl, rfl⟩
  go_wp2_with fail
  refine hS.out.mono ?_
  rintro e w2 ⟨v, ss, rfl, hss, hrow, hnil, hb2⟩
  have HB2 := Lib.hid (HB.out.trans (hb2.mono HB.out.size))
  have hlen : ss.length = D.files.length := by
    rw [hss.length_eq, ← HP.out.length_eq, List.length_map]
  have hsort : (ss.mergeSort fun x y => decide (x ≤ y)) = (D.files.map fun f => f.name.data.toList).mergeSort leB := mergeSort_of_perm (hss.trans HP.out.symm)
  rw [hlen, hsort, enc_names] at hrow
  have HR := Lib.hid hrow
  clear hss hrow hnil hb2 hlen hsort hK hS
  go_wp2
  go_ret
  refine ⟨?_, HB2.out⟩
  have hrow := HR.out
  obtain ⟨h1, ⟨h2, h3⟩ | ⟨g, cap', cur, h3, h4, h5⟩⟩ := id hrow
  · subst h2
    rw [h3] at hrow ⊢
    exact ⟨none, 0, rfl, Own.lower ⟨by rw [names_len]; exact h3.symm, hrow⟩ HB.out.size⟩
  · subst h3
    exact ⟨_, _, rfl, Own.lower ⟨(names_len _).symm, hrow⟩ HB.out.size⟩
end Go.Proofs.Ytmjoepipcmglkaa
