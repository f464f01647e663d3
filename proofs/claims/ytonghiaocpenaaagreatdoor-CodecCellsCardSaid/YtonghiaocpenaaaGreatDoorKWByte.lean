/-
  (*bytes.Buffer).WriteByte on a writer's buffer: it turns no row that a conversion marked. (after the library's own walk of it)
-/
import Derived.Test.YtonghiaocpenaaaGreatDoorKVEnc
import Derived.Lib.BufferAt
import Derived.Lib.BufferWrite
import Derived.BigCall
import Derived.BigGuard
namespace Go.Proofs.YtonghiaocpenaaaGreatDoor
open Go.RowKit

/-- A writer at block b holds the bytes xs. -/
def Wr (B b : Nat) (xs : List Int) (w : World) : Prop := LibA.IsBuffer 54 (fun _ => none) 5 B b 0 (xs.map (Value.int .u8)) w
/-- All but the block b and rows of bytes without a mark is unturned. -/
def Marked (b : Nat) (w w' : World) : Prop := ∀ (k : Nat) (o : Obj), k ≠ b → (∀ cs, o ≠ .cells cs 5 (0, 0)) → w.heap[k]? = some o → w'.heap[k]? = some o
theorem Marked.refl (b : Nat) (w : World) : Marked b w w := fun _ _ _ _ h => h
theorem Marked.trans {b : Nat} {u v w : World} (h : Marked b u v) (k : Marked b v w) : Marked b u w := fun i o h1 h2 h3 => k i o h1 h2 (h i o h1 h2 h3)
theorem Marked.grown {b : Nat} {w w' : World} (h : w.grownBy w' (some b)) : Marked b w w' := fun k _ h1 _ h3 =>
  (h.block k (Array.getElem?_eq_some_iff.1 h3).1 (fun e => h1 (by injection e))).trans h3
theorem Marked.below {b : Nat} {w w' : World} (h : Below w.heap.size w w') : Marked b w w' := fun k _ _ _ h3 =>
  (h.block k (Array.getElem?_eq_some_iff.1 h3).1).trans h3
theorem Marked.head {b : Nat} (w : World) (o : Nat) (v : Value) : Marked b w (w.setCell ⟨b, o, none⟩ v) := fun _ _ h1 _ h3 => by
  rw [Below.heap_setCell _ _ _ _ h1]; exact h3
theorem Marked.row {b g : Nat} {w : World} {cur : Array Value} (hg : w.heap[g]? = some (.cells cur 5 (0, 0))) (o : Nat) (v : Value) : Marked b w (w.setCell ⟨g, o, none⟩ v) := fun k _ _ h2 h3 => by
  have : k ≠ g := fun e => by
    subst e
    rw [hg] at h3
    injection h3 with h3
    exact h2 cur h3.symm
  rw [Below.heap_setCell _ _ _ _ this]; exact h3
theorem Marked.others {b : Nat} {w w' : World} (h : Marked b w w') : Lib.OthersKept 5 (some b) w w' := fun k o h1 h2 h3 =>
  h k o (fun e => h2 (by rw [e])) (fun cs => h3 cs _) h1

set_option maxHeartbeats 6400000 in
set_option maxRecDepth 100000 in
theorem wbyte_calls (B b : Nat) (xs : List Int) (c : Int) (w : World) (h : Wr B b xs w) (hBw : B ≤ w.heap.size) (hlim : xs.length ≤ 1000000) :
    Calls Tryz.prog 50 #[.pointer (some ⟨b, 0, none⟩), .int .u8 c] w fun e w' => e = .returned .nilIface ∧ Wr B b (xs ++ [c]) w' ∧ Below B w w' ∧ Marked b w w' := by
  unfold Wr at h ⊢
  have eb : (xs ++ [c]).map (Value.int .u8) = xs.map (Value.int .u8) ++ [.int .u8 c] := by simp
  have hlen : (xs.map (Value.int .u8)).length = xs.length := List.length_map ..
  have h1 : ∀ v ∈ xs.map (Value.int .u8), v.oneCell' = true := by
    intro v hv
    obtain ⟨x, _, rfl⟩ := List.mem_map.1 hv
    rfl
  rw [eb]
  generalize xs.map (Value.int .u8) = bs at *
  rw [← hlen] at hlim
  clear hlen eb
  obtain ⟨hB, v0, lr, hbk, -, -⟩ := id h
  have c2 : w.cell? ⟨b, 2, none⟩ = some (.int .i8 lr) := hbk.c2
  have f2 : w.frozen? ⟨b, 2, none⟩ = false := hbk.f (0 + 2)
  have h' : LibA.IsBuffer 54 (fun _ => none) 5 B b 0 bs (w.setCell ⟨b, 2, none⟩ (.int .i8 0)) := h.setLast 0
  have hbel0 : Below B w (w.setCell ⟨b, 2, none⟩ (.int .i8 0)) := (Below.refl B w).setCell (p := ⟨b, 2, none⟩) hB _
  have hk0 : Marked b w (w.setCell ⟨b, 2, none⟩ (.int .i8 0)) := Marked.head w 2 _
  have hBw' : B ≤ (w.setCell ⟨b, 2, none⟩ (.int .i8 0)).heap.size := by simpa [World.setCell] using hBw
  clear hbk v0
  have hT : ∀ W, LibA.IsBuffer 54 (fun _ => none) 5 B b 0 bs W → Calls Tryz.prog 67 #[.pointer (some ⟨b, 0, none⟩), .int .i64 1] W _ := fun W hW => Tryz.Buffer_tryGrow_at 54 (fun _ => none) B b 0 1 bs W hW
  have hG : ∀ W, LibA.IsBuffer 54 (fun _ => none) 5 B b 0 bs W → LibA.NoRoom b 0 1 W → B ≤ W.heap.size → Calls Tryz.prog 68 #[.pointer (some ⟨b, 0, none⟩), .int .i64 1] W _ := fun W hW hn hs => Tryz.Buffer_grow_at 54 (fun _ => none) B b 0 1 bs W hW hn hs h1 (by omega)
  go_enter Tryz.func50, Tryz.ntmps50
  go_wp2_with (go_at_call 67; refine (hT _ h').mono ?_)
  rintro e W1 (⟨rfl, ys, hxl, hI, hbel, -, hgr⟩ | ⟨rfl, rfl, hnr⟩)
  · have hbelW := hbel0.trans hbel
    have hkW := hk0.trans (Marked.grown hgr)
    clear hT hG h' hbel hbel0 hBw' c2 f2 hgr hk0
    obtain ⟨-, lr2, hc⟩ := hI.cases
    rcases hc with ⟨hnil, -⟩ | ⟨g, cap, cur, hbk2, hBg, hg, hnc, hcm, hcs, htk, hgb⟩
    · exact absurd (congrArg List.length hnil) (by simp [hxl])
    · rw [List.length_append, hxl] at hbk2 hnc htk
      have d0 : W1.cell? ⟨b, 0, none⟩ = some (.slice (some ⟨g, 0, none⟩) (bs.length + 1) cap) := hbk2.c0
      have hlt : bs.length < cur.size := by omega
      have dg : W1.cell? ⟨g, bs.length, none⟩ = some cur[bs.length] := by rw [Lib.cell_of_heap hg, Array.getElem?_eq_getElem hlt]
      have fg : W1.frozen? ⟨g, bs.length, none⟩ = false := Lib.frozen_of_heap hg _
      have hcm' := hcm
      unfold maxLen at hcm'
      go_wp2
      go_ret
      obtain ⟨r1, r2⟩ := LibA.poke_end (v := .int .u8 c) hB hbk2 hBg hg hcm hcs hgb hnc
      have e1 : cur.toList.take bs.length = bs := by
        have h3 := congrArg (List.take bs.length) htk
        rwa [List.take_take, Nat.min_eq_left (Nat.le_succ _), List.take_left'  rfl] at h3
      rw [e1] at r1
      exact ⟨rfl, r1, hbelW.trans r2, hkW.trans (Marked.row hg _ _)⟩
  · go_wp2_with (go_at_call 68; refine (hG _ h' hnr hBw').mono ?_)
    rintro e W1 ⟨rfl, ys, hxl, hI, hbel, -, hgr⟩
    have hbelW := hbel0.trans hbel
    have hkW := hk0.trans (Marked.grown hgr)
    clear hT hG h' hbel hbel0 hBw' c2 f2 hnr hgr hk0
    obtain ⟨-, lr2, hc⟩ := hI.cases
    rcases hc with ⟨hnil, -⟩ | ⟨g, cap, cur, hbk2, hBg, hg, hnc, hcm, hcs, htk, hgb⟩
    · exact absurd (congrArg List.length hnil) (by simp [hxl])
    · rw [List.length_append, hxl] at hbk2 hnc htk
      have d0 : W1.cell? ⟨b, 0, none⟩ = some (.slice (some ⟨g, 0, none⟩) (bs.length + 1) cap) := hbk2.c0
      have hlt : bs.length < cur.size := by omega
      have dg : W1.cell? ⟨g, bs.length, none⟩ = some cur[bs.length] := by rw [Lib.cell_of_heap hg, Array.getElem?_eq_getElem hlt]
      have fg : W1.frozen? ⟨g, bs.length, none⟩ = false := Lib.frozen_of_heap hg _
      have hcm' := hcm
      unfold maxLen at hcm'
      go_wp2
      go_ret
      obtain ⟨r1, r2⟩ := LibA.poke_end (v := .int .u8 c) hB hbk2 hBg hg hcm hcs hgb hnc
      have e1 : cur.toList.take bs.length = bs := by
        have h3 := congrArg (List.take bs.length) htk
        rwa [List.take_take, Nat.min_eq_left (Nat.le_succ _), List.take_left'  rfl] at h3
      rw [e1] at r1
      exact ⟨rfl, r1, hbelW.trans r2, hkW.trans (Marked.row hg _ _)⟩
end Go.Proofs.YtonghiaocpenaaaGreatDoor
