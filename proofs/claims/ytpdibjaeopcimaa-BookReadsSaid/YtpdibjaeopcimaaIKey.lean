/- index: a map whose keys are pairs of numbers. -/
import Derived.Test.YtpdibjaeopcimaaMap
import Derived.Test.YtpdibjaeopcimaaI
import Derived.Test.YtpdibjaeopcimaaEq
set_option linter.unusedVariables false
set_option linter.unusedSimpArgs false
namespace Go.Proofs.Ytpdibjaeopcimaa
open Go.RowKit

theorem id_eq (a b : Pl) (w : World) : (Op.equal 23 (plV a) (plV b)).run Try.prog w = .ok (decide (a = b)) w := by
  have h := eqId 9998 w a.1 b.1 a.2 b.2
  have e : (a.1 == b.1 && (a.2 == b.2)) = decide (a = b) := by
    rw [Bool.eq_iff_iff]
    simp [Prod.ext_iff]
  rw [e] at h
  exact h
theorem id_check (e : Bool) (a : Pl) (w : World) : (Instr.checkKey e 10000 23 (plV a)).run Try.prog w = .ok () w := by kernel_rfl
theorem id_stays (a : Pl) (w : World) : (Instr.keyThatStays (plV a) (plV a)).run Try.prog w = .ok (plV a) w := by
  have : Instr.sameBits 10000 (plV a) (plV a) = true := by simp [plV, Instr.sameBits]
  unfold Instr.keyThatStays
  rw [this]
  rfl
theorem keyId : KeyT Try.prog 23 plV where
  check := id_check
  stays := id_stays
  find := by
    intro a es ks w h
    have hask : ∀ (es : List MapEntry) (ks : List Pl) (i : Nat), es.map (·.key) = ks.map plV → (Instr.findAsking 23 (plV a) es i).run Try.prog w = .ok (findA a (ks.zip (es.map (·.val))) i) w := by
      intro es
      induction es with
      | nil => intro ks i h; cases ks <;> simp_all [Instr.findAsking, findA]
      | cons x es ih =>
        intro ks i h
        match ks, h with
        | k :: ks, h =>
          simp only [List.map_cons, List.cons.injEq] at h
          simp only [List.map_cons, List.zip_cons_cons, findA, Instr.findAsking, h.1]
          by_cases hka : k = a
          · simp [id_eq, hka, Result.andThen]
          · rw [if_neg hka]
            simp [id_eq, Ne.symm hka, Result.andThen]
            exact ih ks (i + 1) h.2
    cases es with
    | nil =>
      cases ks with
      | nil => simp [Instr.findKey, run_underlying Try.underlying23, Instr.findNow, findA, Result.andThen]
      | cons k ks => simp at h
    | cons x es =>
      have hno : Instr.findNow (.struct #[]) (plV a) (x :: es) 0 = none := rfl
      have hfn : ∀ fs, Instr.findNow (.struct fs) (plV a) (x :: es) 0 = none := fun fs => rfl
      have := hask (x :: es) ks 0 h
      simp [Instr.findKey, run_underlying Try.underlying23, hfn, Result.andThen, this]
end Go.Proofs.Ytpdibjaeopcimaa
