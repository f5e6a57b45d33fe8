/- The bridge: ReadText, ReadBool. -/
import Derived.Test.YtlombcclglffgaaPkBridge3
set_option linter.unusedVariables false
set_option linter.unusedSimpArgs false
namespace Go.Proofs.Ytlombcclglffgaa
open Go.RowKit PPackReads Go.Proofs.YtlombcclglffgaaW.PrintWords

theorem readtext_ok (l : List Nat) (hb : ∀ b ∈ l, b < 256) (limit : Int) : ∃ K, ∀ k, K ≤ k → carabinerref02_ReadText.f k (bS l) 0 limit = some (bS (l.drop (textE 0 limit l).2.1), (textE 0 limit l).2.2, bS (textE 0 limit l).1) := by
  obtain ⟨K, hK⟩ := readnum_ok l hb limit
  refine ⟨K, fun k hk => ?_⟩
  have hnum : numE 0 limit l = numF limit l := by unfold numE; rw [if_pos rfl]
  obtain ⟨⟨v, c, e⟩, hq⟩ : ∃ q, numF limit l = q := ⟨_, rfl⟩
  have h := hK k hk
  rw [hq] at h
  unfold carabinerref02_ReadText.f textE
  rw [h, Option.bind_some, hnum, hq]
  by_cases he : e = 0
  · subst he
    simp only [if_true]
    by_cases hv : v ≤ (l.drop c).length
    · rw [if_pos hv, if_neg (by rw [bS_size]; omega), if_pos (by omega), if_pos (by rw [bS_size]; omega), Int.toNat_natCast, bS_drop, bS_take, List.drop_drop]
    · rw [if_neg hv, if_pos (by rw [bS_size]; omega)]
      rfl
  · simp only [if_neg he]
    rfl

theorem readbool_ok (l : List Nat) (hb : ∀ b ∈ l, b < 256) : carabinerref02_ReadBool.f (bS l) 0 = some (bS (l.drop (boolE 0 l).2.1), (boolE 0 l).2.2, (boolE 0 l).1) := by
  unfold carabinerref02_ReadBool.f
  cases l with
  | nil => rfl
  | cons x l =>
    have hx := hb x (by simp)
    have hbt := bt_bS (x :: l) 0 x rfl hx
    have hbt' : bt (bS (x :: l)) 0 = (x : Int) := hbt
    have hd := bS_drop (x :: l) 1
    have hsz : (bS (x :: l)).size = l.length + 1 := bS_size _
    rw [if_pos rfl, if_neg (by omega), if_pos (by omega), if_pos (by omega), hbt', hd]
    by_cases h1 : 1 < x
    · rw [if_pos (by omega)]
      simp [boolE, h1, carabinerref02_failed.f]
    · rw [if_neg (by omega)]
      have : ((x : Int) == 1) = (x == 1) := by
        by_cases h2 : x = 1
        · subst h2; rfl
        · rw [show ((x : Int) == 1) = false by simp; omega, show (x == 1) = false by simp; exact h2]
      simp [boolE, h1, this]
end Go.Proofs.Ytlombcclglffgaa
