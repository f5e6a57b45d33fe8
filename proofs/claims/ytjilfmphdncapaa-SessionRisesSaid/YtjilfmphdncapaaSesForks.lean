/- SessionForks: the walk: for any three tokens the law answers true. -/
import Derived.Test.YtjilfmphdncapaaSesAlive
import Derived.Test.YtjilfmphdncapaaSesRef
set_option linter.unusedVariables false
set_option linter.unusedSimpArgs false
namespace Go.Proofs.Ytjilfmphdncapaa
open Go.RowKit

theorem right_zero {a b : Int} (h : rightB a b = true) : lessB 0 0 a b = true ∨ (a = 0 ∧ b = 0) := by
  simp [rightB, lessB] at *
  omega
theorem max_zero {a b : Int} (h : rightB a b = true) : maxT 0 0 a b = a ∧ maxN 0 0 a b = b := by
  rcases right_zero h with h1 | ⟨rfl, rfl⟩
  · exact max_t h1
  · exact ⟨rfl, rfl⟩
theorem less_max {a b c d e f : Int} : lessB (maxT a b c d) (maxN a b c d) e f = (lessB a b e f && lessB c d e f) := by
  rw [Bool.eq_iff_iff]
  cases h : lessB a b c d with
  | true =>
    obtain ⟨e1, e2⟩ := max_t h
    rw [e1, e2]
    simp [lessB] at *
    omega
  | false =>
    obtain ⟨e1, e2⟩ := max_f h
    rw [e1, e2]
    simp [lessB] at *
    omega
theorem max_less {a b c d e f : Int} : lessB e f (maxT a b c d) (maxN a b c d) = (lessB e f a b || lessB e f c d) := by
  rw [Bool.eq_iff_iff]
  cases h : lessB a b c d with
  | true =>
    obtain ⟨e1, e2⟩ := max_t h
    rw [e1, e2]
    simp [lessB] at *
    omega
  | false =>
    obtain ⟨e1, e2⟩ := max_f h
    rw [e1, e2]
    simp [lessB] at *
    omega
theorem less_tri' {a b c d : Int} (h : lessB a b c d = false) (h2 : lessB c d a b = false) : c = a ∧ d = b := by
  simp only [lessB, Bool.or_eq_false_iff, decide_eq_false_iff_not, Bool.and_eq_false_iff, beq_eq_false_iff_ne] at *
  omega
theorem less_self' (a b : Int) : lessB a b a b = false := by simp [lessB]
/-- The greater of (x or y) and (x or z) is that of (x or y) and z. -/
theorem max_join (a b c d e f : Int) : maxT (maxT a b c d) (maxN a b c d) (maxT a b e f) (maxN a b e f) = maxT (maxT a b c d) (maxN a b c d) e f ∧
    maxN (maxT a b c d) (maxN a b c d) (maxT a b e f) (maxN a b e f) = maxN (maxT a b c d) (maxN a b c d) e f := by
  have h := @less_tri' (maxT (maxT a b c d) (maxN a b c d) e f) (maxN (maxT a b c d) (maxN a b c d) e f) (maxT (maxT a b c d) (maxN a b c d) (maxT a b e f) (maxN a b e f)) (maxN (maxT a b c d) (maxN a b c d) (maxT a b e f) (maxN a b e f))
  refine h ?_ ?_
  all_goals
    simp only [less_max, max_less, less_self']
    cases h1 : lessB a b c d <;> cases h2 : lessB a b e f <;> cases h3 : lessB c d a b <;> cases h4 : lessB e f a b <;> cases h5 : lessB c d e f <;> cases h6 : lessB e f c d <;> simp <;> (simp [lessB] at *; omega)
theorem max_join2 (a b c d e f : Int) : maxT (maxT a b e f) (maxN a b e f) (maxT (maxT a b c d) (maxN a b c d) e f) (maxN (maxT a b c d) (maxN a b c d) e f) = maxT (maxT a b c d) (maxN a b c d) e f ∧
    maxN (maxT a b e f) (maxN a b e f) (maxT (maxT a b c d) (maxN a b c d) e f) (maxN (maxT a b c d) (maxN a b c d) e f) = maxN (maxT a b c d) (maxN a b c d) e f := by
  have h := @less_tri' (maxT (maxT a b c d) (maxN a b c d) e f) (maxN (maxT a b c d) (maxN a b c d) e f) (maxT (maxT a b e f) (maxN a b e f) (maxT (maxT a b c d) (maxN a b c d) e f) (maxN (maxT a b c d) (maxN a b c d) e f)) (maxN (maxT a b e f) (maxN a b e f) (maxT (maxT a b c d) (maxN a b c d) e f) (maxN (maxT a b c d) (maxN a b c d) e f))
  refine h ?_ ?_
  all_goals
    simp only [less_max, max_less, less_self']
    cases h1 : lessB a b c d <;> cases h2 : lessB a b e f <;> cases h3 : lessB c d a b <;> cases h4 : lessB e f a b <;> cases h5 : lessB c d e f <;> cases h6 : lessB e f c d <;> simp <;> (simp [lessB] at *; omega)
end Go.Proofs.Ytjilfmphdncapaa
