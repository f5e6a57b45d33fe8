/- The bridge from the printed form of the reference to encN, scan. -/
import Derived.Test.YthknfikjanoflaaPkM
import Derived.Test.YthknfikjanoflaaPReadTextx2
set_option linter.unusedVariables false
set_option linter.unusedSimpArgs false
namespace Go.Proofs.Ythknfikjanoflaa
open Go.RowKit PReadText Go.Proofs.YthknfikjanoflaaW.PrintWords
theorem bS_append' (l l' : List Nat) : bS (l ++ l') = bS l ++ bS l' := by
  apply Go.WideShapes.bytes_inj
  unfold bS
  simp
theorem strOf_bS (x : Nat) (_ : x < 256) : strOfNums [(x : Int)] = bS [x] := by
  apply Go.WideShapes.bytes_inj
  simp [strOfNums, bS]
/-- The printed form of the reference's Num is encN. -/
theorem numf : ∀ (n : Nat), n ≤ 4611686018427387904 → ∃ K, ∀ k, K ≤ k → carabinerref02_Num.f k (n : Int) = some (bS (encN n)) := by
  intro n
  induction n using Nat.strongRecOn with
  | _ n ih =>
    intro hn
    have h0 : ¬ ((n : Int) < 0) := by omega
    have h1 : decide ((n : Int) > 4611686018427387904) = false := by simp; omega
    by_cases hs : n < 128
    · refine ⟨2, fun k hk => ?_⟩
      obtain ⟨k, rfl⟩ : ∃ k', k = k' + 2 := ⟨k - 2, by omega⟩
      rw [carabinerref02_Num.f, if_neg h0, h1, carabinerref02_Num.j0, if_neg (by decide), if_pos (by omega), encN_small hs, ← strOf_bS n (by omega)]
      rw [show (n : Int) % 256 = n by omega]
    · obtain ⟨K, hK⟩ := ih (n / 128) (by omega) (by omega)
      refine ⟨K + 2, fun k hk => ?_⟩
      obtain ⟨k, rfl⟩ : ∃ k', k = k' + 2 := ⟨k - 2, by omega⟩
      have e1 : (wrap64 (128 + (Int.tmod (n : Int) 128))) % 256 = ((n % 128 + 128 : Nat) : Int) := by
        rw [Int.tmod_eq_emod_of_nonneg (by omega), IntWalk.wrap64_in _ (by omega)]
        omega
      have e2 : wrap64 (Int.tdiv (n : Int) 128) = ((n / 128 : Nat) : Int) := by
        rw [Int.tdiv_eq_ediv_of_nonneg (by omega), IntWalk.wrap64_in _ (by omega)]
        omega
      have hlen : (encN (n / 128)).length ≤ 9 := encN_len 8 _ (by omega)
      have z1 : (bS [n % 128 + 128]).size = 1 := rfl
      have z2 : (bS (encN (n / 128))).size = (encN (n / 128)).length := by rw [← sB_length, sB_bS (encN_lt _)]
      have z3 : (bS [n % 128 + 128]).size + (bS (encN (n / 128))).size ≤ 9223372036854775807 := by rw [z1, z2]; omega
      have hs2 := strOf_bS (n % 128 + 128) (by omega)
      rw [encN_big (n := n) (by omega), carabinerref02_Num.f, if_neg h0, h1, carabinerref02_Num.j0, if_neg (by decide), if_neg (by omega), e1, e2, hK k (by omega), Option.bind_some, Option.bind_some, hs2, if_pos z3, ← bS_append']
      rfl
end Go.Proofs.Ythknfikjanoflaa
