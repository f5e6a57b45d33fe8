/- The bridge: ReadText, ReadBool. -/
import Derived.Test.YthknfikjanoflaaB3
set_option linter.unusedVariables false
set_option linter.unusedSimpArgs false
namespace Go.Proofs.Ythknfikjanoflaa
open Go.RowKit PReadText Go.Proofs.YthknfikjanoflaaW.PrintWords

theorem readtext_ok (l : List Nat) (hb : ∀ b ∈ l, b < 256) (limit : Int) : ∃ K, ∀ k, K ≤ k → carabinerref02_ReadText.f k (bS l) 0 limit = some (bS (l.drop (textE 0 limit l).2.1), (textE 0 limit l).2.2, bS (textE 0 limit l).1) := by
  obtain ⟨K, hK⟩ := readnum_ok l hb limit
  refine ⟨K, fun k hk => ?_⟩
  have hnum : numE 0 limit l = numF limit l := by unfold numE; rw [if_pos rfl]
  obtain ⟨⟨v, c, e⟩, hq⟩ : ∃ q, numF limit l = q := ⟨_, rfl⟩
  have h := hK k hk
  rw [hq] at h
  unfold carabinerref02_ReadText.f textE
  rw [h, Option.bind_some, hnum, hq]
  by_cases he : e = 0
  · subst he
    simp only [if_true]
    by_cases hv : v ≤ (l.drop c).length
    · rw [if_pos hv, if_neg (by rw [bS_size]; omega), if_pos (by omega), if_pos (by rw [bS_size]; omega), Int.toNat_natCast, bS_drop, bS_take, List.drop_drop]
    · rw [if_neg hv, if_pos (by rw [bS_size]; omega)]
      rfl
  · simp only [if_neg he]
    rfl

end Go.Proofs.Ythknfikjanoflaa
