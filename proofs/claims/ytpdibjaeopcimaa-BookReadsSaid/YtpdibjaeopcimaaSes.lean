/- The contracts of package session (all but Encode and Decode): what each function answers, and which blocks it changes. -/
import Derived.Test.YtpdibjaeopcimaaProg
import Derived.Test.YtpdibjaeopcimaaBase
set_option linter.unusedVariables false
set_option linter.unusedSimpArgs false
namespace Go.Proofs.Ytpdibjaeopcimaa.Sn
open Go.RowKit

def lessB (a b c d : Int) : Bool := decide (a < c) || (a == c && decide (b < d))
def maxT (a b c d : Int) : Int := if lessB a b c d then c else a
def maxN (a b c d : Int) : Int := if lessB a b c d then d else b
def rightB (a b : Int) : Bool := decide (0 ≤ a) && decide (a ≤ 64) && (decide (0 ≤ b) && decide (b ≤ 1099511627776)) && (decide (0 < a) || (a == 0 && b == 0))
theorem max_t {a b c d : Int} (h : lessB a b c d = true) : maxT a b c d = c ∧ maxN a b c d = d := by simp [maxT, maxN, h]
theorem max_f {a b c d : Int} (h : lessB a b c d = false) : maxT a b c d = a ∧ maxN a b c d = b := by simp [maxT, maxN, h]

set_option maxRecDepth 100000 in
theorem less_any (a b c d : Int) (w : World) :
    Calls Try.prog 34 #[.agg #[.int .i64 a, .int .i64 b], .agg #[.int .i64 c, .int .i64 d]] w fun e w' => e = .returned (.bool (lessB a b c d)) ∧ Below w.heap.size w w' := by
  by_cases h1 : decide (a < c) = true
  · have hl : lessB a b c d = true := by simp [lessB, h1]
    go_enter Try.func34, Try.ntmps34
    go_wp2
    go_ret
    exact ⟨by rw [hl]; rfl, below2 _ _ _⟩
  · simp only [Bool.not_eq_true] at h1
    by_cases h2 : (a == c) = true
    · have hl : lessB a b c d = decide (b < d) := by simp [lessB, h1, h2]
      have Hl := Lib.hid hl; clear hl
      go_enter Try.func34, Try.ntmps34
      go_wp2
      go_ret
      exact ⟨by rw [Hl.out]; rfl, below2 _ _ _⟩
    · simp only [Bool.not_eq_true] at h2
      have hl : lessB a b c d = false := by simp [lessB, h1, h2]
      go_enter Try.func34, Try.ntmps34
      go_wp2
      go_ret
      exact ⟨by rw [hl]; rfl, below2 _ _ _⟩

set_option maxRecDepth 100000 in
theorem max_any (a b c d : Int) (w : World) :
    Calls Try.prog 65 #[.agg #[.int .i64 a, .int .i64 b], .agg #[.int .i64 c, .int .i64 d]] w fun e w' => e = .returned (.agg #[.int .i64 (maxT a b c d), .int .i64 (maxN a b c d)]) ∧ Below w.heap.size w w' := by
  cases h : lessB a b c d with
  | true =>
    obtain ⟨e1, e2⟩ := max_t h
    rw [e1, e2]; clear e1 e2
    go_enter Try.func65, Try.ntmps65
    go_wp2_with fail
    refine (less_any _ _ _ _ _).mono ?_
    rintro e w1 ⟨rfl, hb⟩
    obtain ⟨hc, hf⟩ := bcell hb
    rw [h]
    go_wp2
    exact bodyPost_ret (v := .agg #[.int .i64 c, .int .i64 d]) (by simp [results, Try.results65, go_sem, hc]) rfl
      ⟨rfl, ((((((Ch.refl _ w).alloc _).alloc _).alloc _).call hb).set (.inl (by simp; omega)) _ |>.set (.inl (by simp; omega)) _).below⟩
  | false =>
    obtain ⟨e1, e2⟩ := max_f h
    rw [e1, e2]; clear e1 e2
    go_enter Try.func65, Try.ntmps65
    go_wp2_with fail
    refine (less_any _ _ _ _ _).mono ?_
    rintro e w1 ⟨rfl, hb⟩
    obtain ⟨hc, hf⟩ := bcell hb
    rw [h]
    go_wp2
    exact bodyPost_ret (v := .agg #[.int .i64 a, .int .i64 b]) (by simp [results, Try.results65, go_sem, hc]) rfl
      ⟨rfl, ((((((Ch.refl _ w).alloc _).alloc _).alloc _).call hb).set (.inl (by simp; omega)) _ |>.set (.inl (by simp; omega)) _).below⟩

set_option maxRecDepth 100000 in
theorem within_any (n m : Int) (w : World) :
    Calls Try.prog 48 #[.int .i64 n, .int .i64 m] w fun e w' => e = .returned (.bool (decide (0 ≤ n) && decide (n ≤ m))) ∧ w = w' := by
  cases h : decide (0 ≤ n) with
  | true =>
    go_enter Try.func48, Try.ntmps48
    go_wp2
    go_ret
    exact ⟨by simp, rfl⟩
  | false =>
    go_enter Try.func48, Try.ntmps48
    go_wp2
    go_ret
    exact ⟨by simp, rfl⟩

set_option maxRecDepth 100000 in
theorem right_any (a b : Int) (w : World) :
    Calls Try.prog 33 #[.agg #[.int .i64 a, .int .i64 b]] w fun e w' => e = .returned (.bool (rightB a b)) ∧ Below w.heap.size w w' := by
  cases h1 : decide (0 ≤ a) && decide (a ≤ 64) with
  | false =>
    have hr : rightB a b = false := by unfold rightB; rw [h1]; rfl
    go_enter Try.func33, Try.ntmps33
    go_wp2_with fail
    refine (within_any _ _ _).mono ?_
    rintro e w1 ⟨rfl, rfl⟩
    rw [h1]
    go_wp2
    go_ret
    exact ⟨by rw [hr]; rfl, below1 _ _⟩
  | true =>
    cases h2 : decide (0 ≤ b) && decide (b ≤ 1099511627776) with
    | false =>
      have hr : rightB a b = false := by unfold rightB; rw [h1, h2]; rfl
      go_enter Try.func33, Try.ntmps33
      go_wp2_with fail
      refine (within_any _ _ _).mono ?_
      rintro e w1 ⟨rfl, rfl⟩
      rw [h1]
      go_wp2_with fail
      refine (within_any _ _ _).mono ?_
      rintro e w1 ⟨rfl, rfl⟩
      rw [h2]
      go_wp2
      go_ret
      exact ⟨by rw [hr]; rfl, below1 _ _⟩
    | true =>
      cases h3 : decide (0 < a) with
      | true =>
        have hr : rightB a b = true := by unfold rightB; rw [h1, h2, h3]; rfl
        go_enter Try.func33, Try.ntmps33
        go_wp2_with fail
        refine (within_any _ _ _).mono ?_
        rintro e w1 ⟨rfl, rfl⟩
        rw [h1]
        go_wp2_with fail
        refine (within_any _ _ _).mono ?_
        rintro e w1 ⟨rfl, rfl⟩
        rw [h2]
        go_wp2
        go_ret
        exact ⟨by rw [hr]; rfl, below1 _ _⟩
      | false =>
        have hr : rightB a b = (a == 0 && b == 0) := by unfold rightB; rw [h1, h2, h3]; rfl
        have Hr := Lib.hid hr; clear hr
        go_enter Try.func33, Try.ntmps33
        go_wp2_with fail
        refine (within_any _ _ _).mono ?_
        rintro e w1 ⟨rfl, rfl⟩
        rw [h1]
        go_wp2_with fail
        refine (within_any _ _ _).mono ?_
        rintro e w1 ⟨rfl, rfl⟩
        rw [h2]
        go_wp2
        all_goals go_ret
        all_goals exact ⟨by rw [Hr.out]; simp [*], below1 _ _⟩
end Go.Proofs.Ytpdibjaeopcimaa.Sn
