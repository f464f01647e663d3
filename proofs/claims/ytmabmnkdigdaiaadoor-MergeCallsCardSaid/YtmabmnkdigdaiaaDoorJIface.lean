/-
  A method called through an interface value whose dynamic type is a known pointer type.
-/
import Derived.Test.YtmabmnkdigdaiaaDoorJRegion
namespace Go.RowKit
theorem receiver_of {P : Program} {w : World} {T E : TypeId} (name : String) {p : Addr} {v : Value} (ht : P.underlying T = some (.pointer E)) (hl : (loadVar E p).run P w = .ok v w) :
   (receiverAt T (.val (.pointer (some p))) false (some name)).run P w = .ok v w := by
  have e : (Builtin.ssaWrapNilChk_ #[T] T #[.pointer (some p), strVal "", strVal name]).run P w = .ok (.pointer (some p)) w := rfl
  unfold receiverAt
  simp only [Sem.run_bind, run_underlying ht, Result.andThen_ok, Place.get, Sem.run_pure, e]
  exact hl
theorem run_typeInfo' {P : Program} {T : TypeId} {ti : TypeInfo} (h : P.info? T = some ti) (w : World) : (typeInfo T).run P w = .ok ti w := by
  unfold typeInfo
  simp [h, go_sem]
theorem method_find {P : Program} {T : TypeId} {name : String} {r : List FieldStep × Option (FuncId × Bool)} (hti : (P.info? T).bind (fun ti => (ti.methods.find? (·.name == name)).map fun m => (m.path.toList, m.func)) = some r) :
    ∃ ti m, P.info? T = some ti ∧ ti.methods.find? (·.name == name) = some m ∧ m.path.toList = r.1 ∧ m.func = r.2 := by
  cases h : P.info? T with
  | none => rw [h] at hti; cases hti
  | some ti =>
    rw [h] at hti
    cases h2 : ti.methods.find? (·.name == name) with
    | none => simp [h2] at hti
    | some m => simp [h2] at hti; exact ⟨ti, m, rfl, h2, by rw [← hti], by rw [← hti]⟩
theorem method_of {P : Program} {w : World} {F : Nat} {T E : TypeId} {name : String} {f : FuncId} {p : Addr} {v : Value} (hti : (P.info? T).bind (fun ti => (ti.methods.find? (·.name == name)).map fun m => (m.path.toList, m.func)) = some ([], some (f, false)))
   (ht : P.underlying T = some (.pointer E)) (hl : (loadVar E p).run P w = .ok v w) :
   (method (F + 1) T (.pointer (some p)) name).run P w = .ok (f, v) w := by
  obtain ⟨ti, m, h1, hm, hpath, hf⟩ := method_find hti
  have hpath' : m.path.isEmpty = true := by
    have : m.path = #[] := by rw [← Array.toList_inj]; exact hpath
    rw [this]; rfl
  have hr := receiver_of (P := P) (T := T) ((name.splitOn ".").getLastD name) ht hl
  simp only at hpath hf
  unfold method
  simp only [Sem.run_bind, run_typeInfo' h1, Result.andThen_ok, hm, hpath, hf, hpath', follow, if_true, Sem.run_pure]
  rw [hr]
  rfl
theorem method_to {P : Program} {w : World} {F : Nat} {T E : TypeId} {name : String} {f : FuncId} {p : Addr} (hti : (P.info? T).bind (fun ti => (ti.methods.find? (·.name == name)).map fun m => (m.path.toList, m.func)) = some ([], some (f, true)))
   (ht : P.underlying T = some (.pointer E)) :
   (method (F + 1) T (.pointer (some p)) name).run P w = .ok (f, .pointer (some p)) w := by
  obtain ⟨ti, m, h1, hm, hpath, hf⟩ := method_find hti
  simp only at hpath hf
  unfold method receiverAt
  simp only [Sem.run_bind, run_typeInfo' h1, Result.andThen_ok, hm, hpath, hf, follow, Sem.run_pure, run_underlying ht, Place.get]
end Go.RowKit
