/-
  '==' of structs: field by field.
-/
import Derived.Test.YtepagnaabncllaaDoorProg
import Derived.WalkKit
import Derived.Laws.StructEq
import Derived.KernelRfl
namespace Go.Proofs.YtepagnaabncllaaDoor
open Go Go.RowKit

section
variable {P : Program} {d : Nat} {xs ys : Array Value} {f : Field} {fs : List Field} {a b : Value} {r s : Bool} {w : World}
theorem fields_nil : (Op.eqFields d xs ys []).run P w = .ok true w := by simp [Op.eqFields]
theorem fields_cons (hn : (f.name == "_") = false) (ha : (part f.type xs f.offset).run P w = .ok a w) (hb : (part f.type ys f.offset).run P w = .ok b w)
    (he : (Op.equalIn d f.type a b).run P w = .ok r w) (hr : (Op.eqFields d xs ys fs).run P w = .ok s w) : (Op.eqFields d xs ys (f :: fs)).run P w = .ok (r && s) w := by
  have hn' : f.name ≠ "_" := by simpa using hn
  rw [Op.eqFields]
  simp only [if_pos hn', Sem.run_bind, ha, hb, he, Result.andThen_ok]
  cases r
  · simp
  · simpa using hr
theorem equal_struct {t : TypeId} {fs : Array Field} (hu : P.underlying t = some (.struct fs)) (hp : P.stoodInHeld t = false) (h : (Op.eqFields d xs ys fs.toList).run P w = .ok r w) :
    (Op.equalIn (d + 1) t (.agg xs) (.agg ys)).run P w = .ok r w := by
  have hf : P.fieldsOf t = fs := by simp [Program.fieldsOf, hu]
  rw [run_equalIn_struct (P := P) w d t xs ys (by rw [hf]; exact hu) hp, hf]
  exact h
end

/-- Whether two pairs are the same. -/
def eqB (x y : Int × Int) : Bool := decide (x = y)
theorem eqB_true {x y : Int × Int} (h : x = y) : eqB x y = true := by unfold eqB; exact decide_eq_true h
theorem eqB_false {x y : Int × Int} (h : x ≠ y) : eqB x y = false := by unfold eqB; exact decide_eq_false h
theorem of_eqB {x y : Int × Int} (h : eqB x y = true) : x = y := by unfold eqB at h; exact of_decide_eq_true h

theorem equal_value (a b c d : Int) (w : World) : (Op.equal 23 (.agg #[.int .i64 a, .int .i64 b]) (.agg #[.int .i64 c, .int .i64 d])).run Tryd.prog w = .ok (eqB (a, b) (c, d)) w := by
  have e : eqB (a, b) (c, d) = ((a == c) && ((b == d) && true)) := by
    unfold eqB; rw [Bool.and_true, Bool.eq_iff_iff]; simp
  rw [e]
  unfold Op.equal
  rw [show Op.maxDepth = (Op.maxDepth - 2) + 2 from rfl]
  refine equal_struct Tryd.underlying23 (by kernel_rfl) ?_
  refine fields_cons (by rfl) (by go_simp; rfl) (by go_simp; rfl) (by go_simp) ?_
  exact fields_cons (by rfl) (by go_simp; rfl) (by go_simp; rfl) (by go_simp) fields_nil

theorem eql_value (a b c d : Int) (w : World) : (binOp .eql 23 (.agg #[.int .i64 a, .int .i64 b]) (.agg #[.int .i64 c, .int .i64 d])).run Tryd.prog w = .ok (.bool (eqB (a, b) (c, d))) w := by
  simp [binOp, equal_value]
theorem neq_value (a b c d : Int) (w : World) : (binOp .neq 23 (.agg #[.int .i64 a, .int .i64 b]) (.agg #[.int .i64 c, .int .i64 d])).run Tryd.prog w = .ok (.bool (!eqB (a, b) (c, d))) w := by
  simp [binOp, equal_value]
end Go.Proofs.YtepagnaabncllaaDoor
