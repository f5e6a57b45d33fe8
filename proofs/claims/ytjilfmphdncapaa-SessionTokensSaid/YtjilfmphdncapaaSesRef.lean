/- The contracts of the reference of sessions: Right, Less, Max. -/
import Derived.Test.YtjilfmphdncapaaSes
set_option linter.unusedVariables false
set_option linter.unusedSimpArgs false
namespace Go.Proofs.Ytjilfmphdncapaa
open Go.RowKit

set_option maxRecDepth 100000 in
theorem refLess_any (a b c d : Int) (w : World) :
    Calls Try.prog 27 #[.agg #[.int .i64 a, .int .i64 b], .agg #[.int .i64 c, .int .i64 d]] w fun e w' => e = .returned (.bool (lessB a b c d)) ∧ Below w.heap.size w w' := by
  by_cases h : a = c
  · subst h
    have hl : lessB a b a d = decide (b < d) := by simp [lessB]
    rw [hl]; clear hl
    go_enter Try.func27, Try.ntmps27
    go_wp2
    go_ret
    exact ⟨rfl, below2 _ _ _⟩
  · have h1 : (a == c) = false := by simpa using h
    have hl : lessB a b c d = decide (a < c) := by simp [lessB, h]
    rw [hl]; clear hl h
    go_enter Try.func27, Try.ntmps27
    go_wp2
    go_ret
    exact ⟨rfl, below2 _ _ _⟩

set_option maxRecDepth 100000 in
theorem refMax_any (a b c d : Int) (w : World) :
    Calls Try.prog 19 #[.agg #[.int .i64 a, .int .i64 b], .agg #[.int .i64 c, .int .i64 d]] w fun e w' => e = .returned (.agg #[.int .i64 (maxT a b c d), .int .i64 (maxN a b c d)]) ∧ Below w.heap.size w w' := by
  cases h : lessB a b c d with
  | true =>
    obtain ⟨e1, e2⟩ := max_t h
    rw [e1, e2]; clear e1 e2
    go_enter Try.func19, Try.ntmps19
    go_wp2_with fail
    refine (refLess_any _ _ _ _ _).mono ?_
    rintro e w1 ⟨rfl, hb⟩
    obtain ⟨hc, hf⟩ := bcell hb
    rw [h]
    go_wp2
    exact bodyPost_ret (v := .agg #[.int .i64 c, .int .i64 d]) (by simp [results, Try.results19, go_sem, hc]) rfl
      ⟨rfl, ((((((Ch.refl _ w).alloc _).alloc _).alloc _).call hb).set (.inl (by simp; omega)) _ |>.set (.inl (by simp; omega)) _).below⟩
  | false =>
    obtain ⟨e1, e2⟩ := max_f h
    rw [e1, e2]; clear e1 e2
    go_enter Try.func19, Try.ntmps19
    go_wp2_with fail
    refine (refLess_any _ _ _ _ _).mono ?_
    rintro e w1 ⟨rfl, hb⟩
    obtain ⟨hc, hf⟩ := bcell hb
    rw [h]
    go_wp2
    exact bodyPost_ret (v := .agg #[.int .i64 a, .int .i64 b]) (by simp [results, Try.results19, go_sem, hc]) rfl
      ⟨rfl, ((((((Ch.refl _ w).alloc _).alloc _).alloc _).call hb).set (.inl (by simp; omega)) _ |>.set (.inl (by simp; omega)) _).below⟩

/-- What the reference calls right is what the program does. -/
theorem refRight_eq (a b : Int) : rightB a b = (if a = 0 then b == 0 else decide (0 < a) && decide (a ≤ 64) && decide (0 ≤ b) && decide (b ≤ 1099511627776)) := by
  unfold rightB
  by_cases h : a = 0
  · subst h
    rw [if_pos rfl, Bool.eq_iff_iff]
    simp
    omega
  · rw [if_neg h, Bool.eq_iff_iff]
    simp
    omega

set_option maxRecDepth 100000 in
theorem refRight_any (a b : Int) (w : World) :
    Calls Try.prog 26 #[.agg #[.int .i64 a, .int .i64 b]] w fun e w' => e = .returned (.bool (rightB a b)) ∧ Below w.heap.size w w' := by
  rw [refRight_eq]
  by_cases h : a = 0
  · rw [if_pos h]
    subst h
    go_enter Try.func26, Try.ntmps26
    go_wp2
    go_ret
    exact ⟨rfl, below1 _ _⟩
  · rw [if_neg h]
    have h0 : (a == 0) = false := by simpa using h
    clear h
    cases h1 : decide (0 < a) with
    | false =>
      go_enter Try.func26, Try.ntmps26
      go_wp2
      go_ret
      exact ⟨rfl, below1 _ _⟩
    | true =>
      cases h2 : decide (a ≤ 64) with
      | false =>
        go_enter Try.func26, Try.ntmps26
        go_wp2
        go_ret
        exact ⟨rfl, below1 _ _⟩
      | true =>
        cases h3 : decide (0 ≤ b) with
        | false =>
          go_enter Try.func26, Try.ntmps26
          go_wp2
          go_ret
          exact ⟨rfl, below1 _ _⟩
        | true =>
          go_enter Try.func26, Try.ntmps26
          go_wp2
          go_ret
          exact ⟨rfl, below1 _ _⟩
end Go.Proofs.Ytjilfmphdncapaa
