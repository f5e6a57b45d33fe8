/- '==' of structs of two numbers (api.Id, api.Seq), as one Bool. -/
import Derived.Test.YtpdibjaeopcimaaProg
import Derived.Test.YtpdibjaeopcimaaChecked
import Derived.Test.YtpdibjaeopcimaaBase
set_option linter.unusedVariables false
set_option linter.unusedSimpArgs false
namespace Go.Proofs.Ytpdibjaeopcimaa
open Go.RowKit

theorem runEqFields_last {P : Program} {d : Nat} {xs ys : Array Value} {f : Field} {a b : Value} {r : Bool} {w : World} (hn : f.name ≠ "_") (ha : (part f.type xs f.offset).run P w = .ok a w) (hb : (part f.type ys f.offset).run P w = .ok b w) (he : (Op.equalIn d f.type a b).run P w = .ok r w) : (Op.eqFields d xs ys [f]).run P w = .ok r w := by
  simp only [Op.eqFields, if_pos hn, Sem.run_bind, ha, hb, he, Result.andThen_ok]
  cases r <;> simp
theorem runEqFields_cons {P : Program} {d : Nat} {xs ys : Array Value} {f : Field} {fs : List Field} {a b : Value} {r s : Bool} {w : World} (hn : f.name ≠ "_") (ha : (part f.type xs f.offset).run P w = .ok a w) (hb : (part f.type ys f.offset).run P w = .ok b w) (he : (Op.equalIn d f.type a b).run P w = .ok r w) (hr : (Op.eqFields d xs ys fs).run P w = .ok s w) : (Op.eqFields d xs ys (f :: fs)).run P w = .ok (r && s) w := by
  rw [Op.eqFields]
  simp only [if_pos hn, Sem.run_bind, ha, hb, he, Result.andThen_ok]
  cases r
  · simp
  · simpa using hr
theorem runEq_struct {P : Program} {d : Nat} {t : TypeId} {fs : Array Field} {xs ys : Array Value} {r : Bool} {w : World} (hu : P.underlying t = some (.struct fs)) (hp : P.stoodInHeld t = false)
    (h : (Op.eqFields d xs ys fs.toList).run P w = .ok r w) : (Op.equalIn (d + 1) t (.agg xs) (.agg ys)).run P w = .ok r w := by
  have hf : P.fieldsOf t = fs := by simp [Program.fieldsOf, hu]
  rw [run_equalIn_struct (P := P) w d t xs ys (by rw [hf]; exact hu) hp, hf]
  exact h
theorem eqId (d : Nat) (w : World) (x1 y1 x2 y2 : Int) :
    (Op.equalIn (d + 2) 23 (.agg #[.int .i64 x1, .int .i64 x2]) (.agg #[.int .i64 y1, .int .i64 y2])).run Try.prog w = .ok (x1 == y1 && (x2 == y2)) w := by
  refine runEq_struct Try.underlying23 (by kernel_rfl) ?_
  refine runEqFields_cons (by decide) (by go_simp; rfl) (by go_simp; rfl) (by go_simp) ?_
  exact runEqFields_last (by decide) (by go_simp; rfl) (by go_simp; rfl) (by go_simp)
theorem eqSeq (d : Nat) (w : World) (x1 y1 x2 y2 : Int) :
    (Op.equalIn (d + 2) 39 (.agg #[.int .i64 x1, .int .i64 x2]) (.agg #[.int .i64 y1, .int .i64 y2])).run Try.prog w = .ok (x1 == y1 && (x2 == y2)) w := by
  refine runEq_struct Try.underlying39 (by kernel_rfl) ?_
  refine runEqFields_cons (by decide) (by go_simp; rfl) (by go_simp; rfl) (by go_simp) ?_
  exact runEqFields_last (by decide) (by go_simp; rfl) (by go_simp; rfl) (by go_simp)
end Go.Proofs.Ytpdibjaeopcimaa
