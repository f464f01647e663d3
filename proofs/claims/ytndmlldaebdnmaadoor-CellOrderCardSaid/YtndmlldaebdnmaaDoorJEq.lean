/-
  The model's '==' at the structs Value and Cell, as one Bool.
-/
import Derived.Test.YtndmlldaebdnmaaDoorJOrder
import Derived.Laws.StructEq
namespace Go.Proofs.YtndmlldaebdnmaaDoor
open Go.RowKit
section
variable {P : Program} {d : Nat} {xs ys : Array Value} {f : Field} {fs : List Field} {a b : Value} {r s : Bool} {w : World}
theorem eqfOne (hn : (f.name == "_") = false) (ha : (part f.type xs f.offset).run P w = .ok a w) (hb : (part f.type ys f.offset).run P w = .ok b w) (he : (Op.equalIn d f.type a b).run P w = .ok r w) : (Op.eqFields d xs ys [f]).run P w = .ok r w := by
  have hn' : f.name ≠ "_" := by simpa using hn
  simp only [Op.eqFields, if_pos hn', Sem.run_bind, ha, hb, he, Result.andThen_ok]
  cases r <;> simp
theorem eqfMore (hn : (f.name == "_") = false) (ha : (part f.type xs f.offset).run P w = .ok a w) (hb : (part f.type ys f.offset).run P w = .ok b w) (he : (Op.equalIn d f.type a b).run P w = .ok r w) (hr : (Op.eqFields d xs ys fs).run P w = .ok s w) : (Op.eqFields d xs ys (f :: fs)).run P w = .ok (r && s) w := by
  have hn' : f.name ≠ "_" := by simpa using hn
  rw [Op.eqFields]
  simp only [if_pos hn', Sem.run_bind, ha, hb, he, Result.andThen_ok]
  cases r
  · simp
  · simpa using hr
theorem eqStruct {t : TypeId} {fs : Array Field} (hu : P.underlying t = some (.struct fs)) (hp : P.stoodInHeld t = false) (h : (Op.eqFields d xs ys fs.toList).run P w = .ok r w) : (Op.equalIn (d + 1) t (.agg xs) (.agg ys)).run P w = .ok r w := by
  have hf : P.fieldsOf t = fs := by simp [Program.fieldsOf, hu]
  rw [run_equalIn_struct (P := P) w d t xs ys (by rw [hf]; exact hu) hp, hf]
  exact h
end

theorem eqVal (d : Nat) (w : World) (x0 y0 x1 y1 : Int) (x2 y2 : ByteArray) :
    (Op.equalIn (d + 2) 29 (.agg #[.int .i64 x0, .int .i64 x1, .string x2]) (.agg #[.int .i64 y0, .int .i64 y1, .string y2])).run Tryd.prog w = .ok (x0 == y0 && (x1 == y1 && (x2.toList == y2.toList))) w := by
  refine eqStruct Tryd.underlying29 (by kernel_rfl) ?_
  refine eqfMore (by rfl) (by go_simp; rfl) (by go_simp; rfl) (by go_simp) ?_
  refine eqfMore (by rfl) (by go_simp; rfl) (by go_simp; rfl) (by go_simp) ?_
  exact eqfOne (by rfl) (by go_simp; rfl) (by go_simp; rfl) (by go_simp)

theorem eqCell (d : Nat) (w : World) (x0 y0 x1 y1 x2 y2 : ByteArray) (x3 y3 x4 y4 x5 y5 x6 y6 : Int) (x7 y7 : ByteArray) :
    (Op.equalIn (d + 3) 31 (.agg #[.string x0, .string x1, .string x2, .int .i64 x3, .int .i64 x4, .int .i64 x5, .int .i64 x6, .string x7]) (.agg #[.string y0, .string y1, .string y2, .int .i64 y3, .int .i64 y4, .int .i64 y5, .int .i64 y6, .string y7])).run Tryd.prog w = .ok (x0.toList == y0.toList && (x1.toList == y1.toList && (x2.toList == y2.toList && (x3 == y3 && (x4 == y4 && ((x5 == y5 && (x6 == y6 && (x7.toList == y7.toList))))))))) w := by
  refine eqStruct Tryd.underlying31 (by kernel_rfl) ?_
  refine eqfMore (by rfl) (by go_simp; rfl) (by go_simp; rfl) (by go_simp) ?_
  refine eqfMore (by rfl) (by go_simp; rfl) (by go_simp; rfl) (by go_simp) ?_
  refine eqfMore (by rfl) (by go_simp; rfl) (by go_simp; rfl) (by go_simp) ?_
  refine eqfMore (by rfl) (by go_simp; rfl) (by go_simp; rfl) (by go_simp) ?_
  refine eqfMore (by rfl) (by go_simp; rfl) (by go_simp; rfl) (by go_simp) ?_
  exact eqfOne (by rfl) (by go_simp) (by go_simp) (eqVal (d + 0) w _ _ _ _ _ _)

/-- Two cells are one. -/
def Cell.beq (a b : Cell) : Bool := a.row.toList == b.row.toList && (a.fam.toList == b.fam.toList && (a.qual.toList == b.qual.toList && (a.time == b.time && (a.kind == b.kind && ((a.vk == b.vk && (a.vn == b.vn && (a.vs.toList == b.vs.toList))))))))
theorem toList_inj {a b : ByteArray} (h : a.toList = b.toList) : a = b := by
  rw [ByteArray.toList_eq, ByteArray.toList_eq] at h
  cases a with | mk a => cases b with | mk b => cases a with | mk a => cases b with | mk b => simp at h; rw [h]
theorem Cell.beq_iff (a b : Cell) : a.beq b = true ↔ a = b := by
  constructor
  · intro h
    simp only [Cell.beq, Bool.and_eq_true, beq_iff_eq] at h
    obtain ⟨h1, h2, h3, h4, h5, h6, h7, h8⟩ := h
    cases a; cases b
    simp only at *
    rw [toList_inj h1, toList_inj h2, toList_inj h3, h4, h5, h6, h7, toList_inj h8]
  · rintro rfl
    simp [Cell.beq]
end Go.Proofs.YtndmlldaebdnmaaDoor
