/- The bridge: ReadNum, ReadText, ReadBool, Read. -/
import Derived.Test.YthknfikjanoflaaB2
set_option linter.unusedVariables false
set_option linter.unusedSimpArgs false
namespace Go.Proofs.Ythknfikjanoflaa
open Go.RowKit PReadText Go.Proofs.YthknfikjanoflaaW.PrintWords

theorem bS_drop (l : List Nat) (i : Nat) : (bS l).extract i (bS l).size = bS (l.drop i) := by
  apply Go.WideShapes.bytes_inj
  rw [bS_size]
  unfold bS
  simp [List.take_of_length_le]
theorem bS_take (l : List Nat) (i : Nat) : (bS l).extract 0 i = bS (l.take i) := by
  apply Go.WideShapes.bytes_inj
  unfold bS
  simp

theorem rn_l0 (l : List Nat) (hb : ∀ b ∈ l, b < 256) (m K : Nat) (limit : Int) (hm : m < l.length) (hm8 : m ≤ 8) (R : Option (ByteArray × Int × Int))
    (hfin : ∀ k, K ≤ k → carabinerref02_ReadNum.l0 k limit (m : Int) (ev (l.take (m + 1)) : Nat) (-1) (bS l) 0 = R) :
    ∀ i, i ≤ m + 1 → ∀ k, K + i ≤ k → carabinerref02_ReadNum.l0 k limit (m : Int) (ev ((l.take (m + 1)).drop i) : Nat) ((i : Int) - 1) (bS l) 0 = R := by
  intro i
  induction i with
  | zero => intro _ k hk; rw [List.drop_zero]; exact hfin k (by omega)
  | succ i ih =>
    intro hi k hk
    obtain ⟨k, rfl⟩ : ∃ k', k = k' + 1 := ⟨k - 1, by omega⟩
    obtain ⟨x, hx⟩ : ∃ x, l[i]? = some x := ⟨_, List.getElem?_eq_getElem (by omega)⟩
    have hx8 := hb x (List.mem_of_getElem? hx)
    have hx' : (l.take (m + 1))[i]? = some x := by rw [List.getElem?_take_of_lt (by omega)]; exact hx
    have hev : ev ((l.take (m + 1)).drop i) = x % 128 + 128 * ev ((l.take (m + 1)).drop (i + 1)) := by rw [drop_at hx']; rfl
    have hlt := ev_lt ((l.take (m + 1)).drop (i + 1))
    have hl8 : ((l.take (m + 1)).drop (i + 1)).length ≤ 8 := by simp; omega
    have hlt8 : ev ((l.take (m + 1)).drop (i + 1)) < 72057594037927936 := Nat.lt_of_lt_of_le hlt (Nat.le_trans (Nat.pow_le_pow_right (by omega) hl8) (by decide))
    have e0 : ((i + 1 : Nat) : Int) - 1 = (i : Int) := by omega
    rw [e0, carabinerref02_ReadNum.l0, if_pos (by omega), if_pos (by omega), if_pos (by rw [bS_size]; omega), bt_bS l i x hx hx8]
    have e1 : wrap64 (wrap64 (((ev ((l.take (m + 1)).drop (i + 1)) : Nat) : Int) * 128) + Int.tmod (wrap64 (x : Int)) 128) = ((ev ((l.take (m + 1)).drop i) : Nat) : Int) := by
      rw [hev, IntWalk.wrap64_in (x : Int) (by omega), IntWalk.wrap64_in (((ev ((l.take (m + 1)).drop (i + 1)) : Nat) : Int) * 128) (by omega), Int.tmod_eq_emod_of_nonneg (by omega), IntWalk.wrap64_in _ (by omega)]
      omega
    rw [e1, IntWalk.wrap64_in _ (by omega)]
    exact ih (by omega) k (by omega)

/-- The reference's Num at any number that nine bytes hold. -/
theorem numf_all (n : Nat) : ∃ K, ∀ k, K ≤ k → carabinerref02_Num.f k (n : Int) = some (if n ≤ 4611686018427387904 then bS (encN n) else bS []) := by
  by_cases h : n ≤ 4611686018427387904
  · rw [if_pos h]
    exact numf n h
  · refine ⟨2, fun k hk => ?_⟩
    obtain ⟨k, rfl⟩ : ∃ k', k = k' + 2 := ⟨k - 2, by omega⟩
    rw [if_neg h, carabinerref02_Num.f, if_neg (by omega), show decide ((n : Int) > 4611686018427387904) = true by simp; omega, carabinerref02_Num.j0, if_pos rfl]
    rfl

/-- ReadNum of a reader without an error. -/
theorem readnum_ok (l : List Nat) (hb : ∀ b ∈ l, b < 256) (limit : Int) : ∃ K, ∀ k, K ≤ k → carabinerref02_ReadNum.f k (bS l) 0 limit = some (bS (l.drop (numF limit l).2.1), (numF limit l).2.2, ((numF limit l).1 : Int)) := by
  cases hl : lst 0 l with
  | none =>
    have hs := scan_none l 0 0 hb (by omega) hl
    refine ⟨21, fun k hk => ?_⟩
    obtain ⟨k, rfl⟩ : ∃ k', k = k' + 1 := ⟨k - 1, by omega⟩
    have hlast := last_l0 9 l 0 hb rfl (by omega) (k + 1) (by omega)
    rw [List.drop_zero, hl] at hlast
    have hlast' : carabinerref02_last.f (k + 1) (bS l) = some (-1) := hlast
    by_cases h9 : l.length < 9
    · rw [if_pos (by omega)] at hs
      rw [numF_err hs (by decide), List.drop_length]
      unfold carabinerref02_ReadNum.f
      rw [if_pos rfl, hlast', Option.bind_some, if_pos (by decide), show decide (((bS l).size : Int) < 9) = true by rw [bS_size]; simp; omega, carabinerref02_ReadNum.j0, if_pos rfl]
      rfl
    · rw [if_neg (by omega)] at hs
      rw [numF_err hs (by decide)]
      unfold carabinerref02_ReadNum.f
      rw [if_pos rfl, hlast', Option.bind_some, if_pos (by decide), show decide (((bS l).size : Int) < 9) = false by rw [bS_size]; simp; omega, carabinerref02_ReadNum.j0, if_neg (by decide), if_pos (by decide), if_pos (by rw [bS_size]; omega), bS_drop]
      rfl
  | some m =>
    obtain ⟨_, hm8, hml, _, b, hbm, hb128, hs⟩ := scan_some l 0 0 m hb (by omega) hl
    simp only [Nat.sub_zero, Nat.pow_zero, Nat.mul_one, Nat.zero_add] at hml hbm hs
    obtain ⟨n, hn⟩ : ∃ n, n = ev (l.take (m + 1)) := ⟨_, rfl⟩
    rw [← hn] at hs
    obtain ⟨K1, hK1⟩ := numf_all n
    have hw : wrap64 ((m : Int) + 1) = ((m + 1 : Nat) : Int) := by rw [IntWalk.wrap64_in _ (by omega)]; omega
    have htl : ∀ b ∈ l.take (m + 1), b < 256 := fun b h => hb b (List.mem_of_mem_take h)
    have hinj : ∀ l1 l2 : List Nat, (∀ b ∈ l1, b < 256) → (∀ b ∈ l2, b < 256) → (bS l1).toList = (bS l2).toList → l1 = l2 := by
      intro l1 l2 h1 h2 e
      rw [ByteArray.toList_eq, ByteArray.toList_eq] at e
      have := Go.WideShapes.bytes_inj e
      rw [← sB_bS h1, ← sB_bS h2, this]
    -- what the last step gives
    have hfin : ∀ k, K1 + 1 ≤ k → carabinerref02_ReadNum.l0 k limit (m : Int) (ev (l.take (m + 1)) : Nat) (-1) (bS l) 0 = some (bS (l.drop (numF limit l).2.1), (numF limit l).2.2, ((numF limit l).1 : Int)) := by
      intro k hk
      obtain ⟨k, rfl⟩ : ∃ k', k = k' + 1 := ⟨k - 1, by omega⟩
      rw [← hn, carabinerref02_ReadNum.l0, if_neg (by decide), hw, if_pos (by omega), if_pos (by rw [bS_size]; omega), hK1 k (by omega), Option.bind_some, Int.toNat_natCast, bS_take, bS_drop]
      by_cases hbad : b = 0 ∧ 0 < m
      · rw [if_pos hbad] at hs
        rw [numF_err hs (by decide), if_neg]
        · rfl
        · intro e
          split at e
          · rename_i h62
            have e2 := hinj _ _ (encN_lt n) htl e
            have h3 := scan_enc n 0 0 (l.drop (m + 1)) (by simp; omega) (by omega) (.inr rfl)
            rw [e2, List.take_append_drop, hs] at h3
            simp at h3
          · have e2 := hinj _ _ (by simp) htl e
            have e3 := congrArg List.length e2
            simp at e3
            omega
      · rw [if_neg hbad] at hs
        obtain ⟨m', e1, e2, _, _⟩ := scan_inv l 0 0 _ _ hb (by omega) hs
        simp only [Nat.pow_zero, Nat.mul_one, Nat.zero_add] at e1
        subst e1
        by_cases h62 : n ≤ 4611686018427387904
        · rw [if_pos h62, e2, if_pos rfl]
          by_cases hlim : (n : Int) ≤ limit
          · rw [numF_ok hs h62 hlim, if_neg (by omega)]
          · rw [numF_form hs (fun h => hlim h.2), if_pos (by omega)]
            rfl
        · rw [if_neg h62, numF_form hs (fun h => h62 h.1), if_neg]
          · rfl
          · intro e
            have e2 := hinj _ _ (by simp) htl e
            have e3 := congrArg List.length e2
            simp at e3
            omega
    refine ⟨K1 + m + 30, fun k hk => ?_⟩
    have hlast := last_l0 9 l 0 hb rfl (by omega) k (by omega)
    rw [List.drop_zero, hl] at hlast
    have hlast' : carabinerref02_last.f k (bS l) = some (m : Int) := hlast
    have h0 := rn_l0 l hb m (K1 + 1) limit hml hm8 _ hfin (m + 1) (Nat.le_refl _) (k - 1) (by omega)
    unfold carabinerref02_ReadNum.f
    obtain ⟨k, rfl⟩ : ∃ k', k = k' + 1 := ⟨k - 1, by omega⟩
    rw [if_pos rfl, hlast', Option.bind_some, if_neg (by omega), carabinerref02_ReadNum.j0, if_neg (by decide), if_neg (by omega)]
    have hd : (l.take (m + 1)).drop (m + 1) = [] := List.drop_eq_nil_of_le (by simp; omega)
    rw [hd, show ((m + 1 : Nat) : Int) - 1 = (m : Int) by omega] at h0
    exact h0
end Go.Proofs.Ythknfikjanoflaa
