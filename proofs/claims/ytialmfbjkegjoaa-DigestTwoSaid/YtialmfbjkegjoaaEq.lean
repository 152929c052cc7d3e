/- '==' of the program's structs, as one decision. -/
import Derived.Test.YtialmfbjkegjoaaProg
import Derived.Test.YtialmfbjkegjoaaK
import Derived.Laws.StructEq
set_option linter.unusedVariables false
set_option linter.unusedSimpArgs false
namespace Go.Proofs.Ytialmfbjkegjoaa
open Go.RowKit
section
variable {P : Program} {d : Nat} {xs ys : Array Value} {f : Field} {fs : List Field} {a b : Value} {r s : Bool} {w : World}
theorem fields_one (hn : (f.name == "_") = false) (ha : (part f.type xs f.offset).run P w = .ok a w) (hb : (part f.type ys f.offset).run P w = .ok b w) (he : (Op.equalIn d f.type a b).run P w = .ok r w) :
    (Op.eqFields d xs ys [f]).run P w = .ok r w := by
  have hn' : f.name ≠ "_" := by simpa using hn
  simp only [Op.eqFields, if_pos hn', Sem.run_bind, ha, hb, he, Result.andThen_ok]
  cases r <;> simp
theorem fields_more (hn : (f.name == "_") = false) (ha : (part f.type xs f.offset).run P w = .ok a w) (hb : (part f.type ys f.offset).run P w = .ok b w) (he : (Op.equalIn d f.type a b).run P w = .ok r w)
    (hr : (Op.eqFields d xs ys fs).run P w = .ok s w) : (Op.eqFields d xs ys (f :: fs)).run P w = .ok (r && s) w := by
  have hn' : f.name ≠ "_" := by simpa using hn
  rw [Op.eqFields]
  simp only [if_pos hn', Sem.run_bind, ha, hb, he, Result.andThen_ok]
  cases r
  · simp
  · simpa using hr
theorem struct_eq {t : TypeId} {fs : Array Field} (hu : P.underlying t = some (.struct fs)) (hp : P.stoodInHeld t = false) (h : (Op.eqFields d xs ys fs.toList).run P w = .ok r w) :
    (Op.equalIn (d + 1) t (.agg xs) (.agg ys)).run P w = .ok r w := by
  have hf : P.fieldsOf t = fs := by simp [Program.fieldsOf, hu]
  rw [run_equalIn_struct (P := P) w d t xs ys (by rw [hf]; exact hu) hp, hf]
  exact h
end
theorem str_beq (x y : ByteArray) : (x.toList == y.toList) = decide (x = y) := by
  rw [ByteArray.toList_eq, ByteArray.toList_eq, Bool.eq_iff_iff]
  simp [ByteArray.ext_iff, Array.toList_inj]
theorem ok_eq {P : Program} {α : Type} {m : Sem α} {a b : α} {w w' : World} (h : m.run P w = .ok a w') (e : a = b) : m.run P w = .ok b w' := e ▸ h

theorem eqV (d : Nat) (w : World) (x0 y0 x1 y1 x2 y2 : Int) (x3 y3 : ByteArray) :
    (Op.equalIn (d + 2) 24 (.agg #[.int .i64 x0, .int .i64 x1, .int .i64 x2, .string x3]) (.agg #[.int .i64 y0, .int .i64 y1, .int .i64 y2, .string y3])).run Try.prog w = .ok (eqVB ⟨x0, x1, x2, x3⟩ ⟨y0, y1, y2, y3⟩) w := by
  refine ok_eq (struct_eq Try.underlying24 (by kernel_rfl) ?_) (?_ : (x0 == y0 && (x1 == y1 && (x2 == y2 && (x3.toList == y3.toList)))) = _)
  · refine fields_more (by rfl) (by go_simp; rfl) (by go_simp; rfl) (by go_simp) ?_
    refine fields_more (by rfl) (by go_simp; rfl) (by go_simp; rfl) (by go_simp) ?_
    refine fields_more (by rfl) (by go_simp; rfl) (by go_simp; rfl) (by go_simp) ?_
    exact fields_one (by rfl) (by go_simp; rfl) (by go_simp; rfl) (by go_simp)
  · rw [str_beq]; simp only [eqVB, PV.mk.injEq, Bool.decide_and]; rfl
theorem eqSeen (d : Nat) (w : World) (x0 y0 : ByteArray) (x1 y1 x2 y2 x3 y3 : Int) (x4 y4 : ByteArray) :
    (Op.equalIn (d + 3) 62 (.agg #[.string x0, .int .i64 x1, .int .i64 x2, .int .i64 x3, .string x4]) (.agg #[.string y0, .int .i64 y1, .int .i64 y2, .int .i64 y3, .string y4])).run Try.prog w = .ok (eqSeenB ⟨x0, ⟨x1, x2, x3, x4⟩⟩ ⟨y0, ⟨y1, y2, y3, y4⟩⟩) w := by
  refine ok_eq (struct_eq Try.underlying62 (by kernel_rfl) ?_) (?_ : (x0.toList == y0.toList && eqVB ⟨x1, x2, x3, x4⟩ ⟨y1, y2, y3, y4⟩) = _)
  · refine fields_more (by rfl) (by go_simp; rfl) (by go_simp; rfl) (by go_simp) ?_
    exact fields_one (by rfl) (by go_simp) (by go_simp) (eqV (d + 0) w _ _ _ _ _ _ _ _)
  · rw [str_beq]; simp only [eqSeenB, eqVB, PSeen.mk.injEq, Bool.decide_and]
end Go.Proofs.Ytialmfbjkegjoaa
