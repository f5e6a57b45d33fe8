/- book's laws: Tag; the document's Tag. -/
import Derived.Test.YtpdibjaeopcimaaIm
set_option linter.unusedVariables false
set_option linter.unusedSimpArgs false
namespace Go.Proofs.Ytpdibjaeopcimaa
open Go.RowKit

/-- Is a number a book's, or a tag's? -/
def inB (n : Int) : Bool := decide (0 ≤ n) && decide (n < 1024)
theorem inB_iff {n : Int} : inB n = true ↔ 0 ≤ n ∧ n < 1024 := by simp [inB]
def tagD (b t : Int) : Int × Bool := if inB b && inB t then (1 + 1024 * b + t, true) else (0, false)
theorem tagD_t {b t : Int} (h1 : inB b = true) (h2 : inB t = true) : tagD b t = (1 + 1024 * b + t, true) := by simp [tagD, h1, h2]
theorem tagD_f1 {b t : Int} (h1 : inB b = false) : tagD b t = (0, false) := by simp [tagD, h1]
theorem tagD_f2 {b t : Int} (h2 : inB t = false) : tagD b t = (0, false) := by simp [tagD, h2]
theorem tag_wrap {b t : Int} (h1 : inB b = true) (h2 : inB t = true) : wrap64 (1024 * b) = 1024 * b ∧ wrap64 (1 + 1024 * b) = 1 + 1024 * b ∧ wrap64 (1 + 1024 * b + t) = 1 + 1024 * b + t := by
  obtain ⟨a, b⟩ := inB_iff.1 h1
  obtain ⟨c, d⟩ := inB_iff.1 h2
  exact ⟨IntWalk.wrap64_in _ (by omega), IntWalk.wrap64_in _ (by omega), IntWalk.wrap64_in _ (by omega)⟩
theorem bwithin_any (n : Int) (w : World) : Calls Try.prog 47 #[.int .i64 n] w fun e w' => e = .returned (.bool (inB n)) ∧ w' = w := by
  unfold inB
  cases h1 : decide (0 ≤ n) with
  | false =>
    go_enter Try.func47, Try.ntmps47
    go_wp2_with fail
    go_ret
    exact ⟨rfl, rfl⟩
  | true =>
    cases h2 : decide (n < 1024) with
    | false =>
      go_enter Try.func47, Try.ntmps47
      go_wp2_with fail
      go_ret
      exact ⟨rfl, rfl⟩
    | true =>
      go_enter Try.func47, Try.ntmps47
      go_wp2_with fail
      go_ret
      exact ⟨rfl, rfl⟩
set_option maxRecDepth 100000 in
theorem tag_any (b t : Int) (w : World) : Calls Try.prog 25 #[.int .i64 b, .int .i64 t] w fun e w' => e = .returned (.tuple #[.int .i64 (tagD b t).1, .bool (tagD b t).2]) ∧ w' = w := by
  have HA := Lib.hid (bwithin_any b w)
  have HB := Lib.hid (bwithin_any t w)
  cases h1 : inB b with
  | false =>
    rw [tagD_f1 h1]
    rw [h1] at HA
    go_enter Try.func25, Try.ntmps25
    go_wp2_with fail
    refine HA.out.mono ?_
    rintro e w1 ⟨rfl, rfl⟩
    go_wp2_with fail
    exact bodyPost_ret (v := .tuple #[.int .i64 0, .bool false]) (by simp [results, Try.results25, go_sem]) rfl ⟨rfl, rfl⟩
  | true =>
    rw [h1] at HA
    cases h2 : inB t with
    | false =>
      rw [tagD_f2 h2]
      rw [h2] at HB
      go_enter Try.func25, Try.ntmps25
      go_wp2_with fail
      refine HA.out.mono ?_
      rintro e w1 ⟨rfl, rfl⟩
      go_wp2_with fail
      refine HB.out.mono ?_
      rintro e w1 ⟨rfl, rfl⟩
      go_wp2_with fail
      exact bodyPost_ret (v := .tuple #[.int .i64 0, .bool false]) (by simp [results, Try.results25, go_sem]) rfl ⟨rfl, rfl⟩
    | true =>
      obtain ⟨k1, k2, k3⟩ := tag_wrap h1 h2
      rw [tagD_t h1 h2]
      rw [h2] at HB
      go_enter Try.func25, Try.ntmps25
      go_wp2_with fail
      refine HA.out.mono ?_
      rintro e w1 ⟨rfl, rfl⟩
      go_wp2_with fail
      refine HB.out.mono ?_
      rintro e w1 ⟨rfl, rfl⟩
      go_wp2_with fail
      exact bodyPost_ret (v := .tuple #[.int .i64 (1 + 1024 * b + t), .bool true]) (by simp [results, Try.results25, go_sem, k3]) rfl ⟨rfl, rfl⟩
theorem inB_cases (n : Int) : (decide (n < 0) = true ∧ inB n = false) ∨ (decide (n < 0) = false ∧ decide (1023 < n) = true ∧ inB n = false) ∨ (decide (n < 0) = false ∧ decide (1023 < n) = false ∧ inB n = true) := by
  by_cases h1 : n < 0
  · exact .inl ⟨decide_eq_true h1, by simp [inB]; omega⟩
  · by_cases h2 : 1023 < n
    · exact .inr (.inl ⟨decide_eq_false h1, decide_eq_true h2, by simp [inB]; omega⟩)
    · exact .inr (.inr ⟨decide_eq_false h1, decide_eq_false h2, by simp [inB]; omega⟩)
set_option maxRecDepth 100000 in
theorem rtag_any (b t : Int) (w : World) : Calls Try.prog 26 #[.int .i64 b, .int .i64 t] w fun e w' => e = .returned (.tuple #[.int .i64 (tagD b t).1, .bool (tagD b t).2]) ∧ w' = w := by
  rcases inB_cases b with ⟨h1, h2⟩ | ⟨h1, h3, h2⟩ | ⟨h1, h3, h2⟩
  · rw [tagD_f1 h2]
    clear h2
    go_enter Try.func26, Try.ntmps26
    go_wp2_with fail
    exact bodyPost_ret (v := .tuple #[.int .i64 0, .bool false]) (by simp [results, Try.results26, go_sem]) rfl ⟨rfl, rfl⟩
  · rw [tagD_f1 h2]
    clear h2
    go_enter Try.func26, Try.ntmps26
    go_wp2_with fail
    exact bodyPost_ret (v := .tuple #[.int .i64 0, .bool false]) (by simp [results, Try.results26, go_sem]) rfl ⟨rfl, rfl⟩
  · rcases inB_cases t with ⟨h4, h5⟩ | ⟨h4, h6, h5⟩ | ⟨h4, h6, h5⟩
    · rw [tagD_f2 h5]
      clear h2 h5
      go_enter Try.func26, Try.ntmps26
      go_wp2_with fail
      exact bodyPost_ret (v := .tuple #[.int .i64 0, .bool false]) (by simp [results, Try.results26, go_sem]) rfl ⟨rfl, rfl⟩
    · rw [tagD_f2 h5]
      clear h2 h5
      go_enter Try.func26, Try.ntmps26
      go_wp2_with fail
      exact bodyPost_ret (v := .tuple #[.int .i64 0, .bool false]) (by simp [results, Try.results26, go_sem]) rfl ⟨rfl, rfl⟩
    · obtain ⟨k1, k2, k3⟩ := tag_wrap h2 h5
      rw [tagD_t h2 h5]
      clear h2 h5
      go_enter Try.func26, Try.ntmps26
      go_wp2_with fail
      exact bodyPost_ret (v := .tuple #[.int .i64 (1 + 1024 * b + t), .bool true]) (by simp [results, Try.results26, go_sem, k3]) rfl ⟨rfl, rfl⟩
end Go.Proofs.Ytpdibjaeopcimaa
