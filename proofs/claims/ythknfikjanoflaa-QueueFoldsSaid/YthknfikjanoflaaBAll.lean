/- The bridge from the printed form of the reference to encN, scan. And more of that kind. -/
import Derived.Test.YthknfikjanoflaaPkAll
import Derived.Test.YthknfikjanoflaaPReadTextx2
set_option linter.unusedVariables false
set_option linter.unusedSimpArgs false
namespace Go.Proofs.Ythknfikjanoflaa
/-! The bridge from the printed form of the reference to encN, scan. -/
section

open Go.RowKit PReadText Go.Proofs.YthknfikjanoflaaW.PrintWords
theorem bS_append' (l l' : List Nat) : bS (l ++ l') = bS l ++ bS l' := by
  apply Go.WideShapes.bytes_inj
  unfold bS
  simp
theorem strOf_bS (x : Nat) (_ : x < 256) : strOfNums [(x : Int)] = bS [x] := by
  apply Go.WideShapes.bytes_inj
  simp [strOfNums, bS]
/-- The printed form of the reference's Num is encN. -/
theorem numf : ∀ (n : Nat), n ≤ 4611686018427387904 → ∃ K, ∀ k, K ≤ k → carabinerref02_Num.f k (n : Int) = some (bS (encN n)) := by
  intro n
  induction n using Nat.strongRecOn with
  | _ n ih =>
    intro hn
    have h0 : ¬ ((n : Int) < 0) := by omega
    have h1 : decide ((n : Int) > 4611686018427387904) = false := by simp; omega
    by_cases hs : n < 128
    · refine ⟨2, fun k hk => ?_⟩
      obtain ⟨k, rfl⟩ : ∃ k', k = k' + 2 := ⟨k - 2, by omega⟩
      rw [carabinerref02_Num.f, if_neg h0, h1, carabinerref02_Num.j0, if_neg (by decide), if_pos (by omega), encN_small hs, ← strOf_bS n (by omega)]
      rw [show (n : Int) % 256 = n by omega]
    · obtain ⟨K, hK⟩ := ih (n / 128) (by omega) (by omega)
      refine ⟨K + 2, fun k hk => ?_⟩
      obtain ⟨k, rfl⟩ : ∃ k', k = k' + 2 := ⟨k - 2, by omega⟩
      have e1 : (wrap64 (128 + (Int.tmod (n : Int) 128))) % 256 = ((n % 128 + 128 : Nat) : Int) := by
        rw [Int.tmod_eq_emod_of_nonneg (by omega), IntWalk.wrap64_in _ (by omega)]
        omega
      have e2 : wrap64 (Int.tdiv (n : Int) 128) = ((n / 128 : Nat) : Int) := by
        rw [Int.tdiv_eq_ediv_of_nonneg (by omega), IntWalk.wrap64_in _ (by omega)]
        omega
      have hlen : (encN (n / 128)).length ≤ 9 := encN_len 8 _ (by omega)
      have z1 : (bS [n % 128 + 128]).size = 1 := rfl
      have z2 : (bS (encN (n / 128))).size = (encN (n / 128)).length := by rw [← sB_length, sB_bS (encN_lt _)]
      have z3 : (bS [n % 128 + 128]).size + (bS (encN (n / 128))).size ≤ 9223372036854775807 := by rw [z1, z2]; omega
      have hs2 := strOf_bS (n % 128 + 128) (by omega)
      rw [encN_big (n := n) (by omega), carabinerref02_Num.f, if_neg h0, h1, carabinerref02_Num.j0, if_neg (by decide), if_neg (by omega), e1, e2, hK k (by omega), Option.bind_some, Option.bind_some, hs2, if_pos z3, ← bS_append']
      rfl
end

/-! The bridge from the printed form of the reference's readers to numE, textE, boolE: plain. -/
section

open Go.RowKit PReadText Go.Proofs.YthknfikjanoflaaW.PrintWords

/-- The place of the first byte below 128 among the first nine. -/
def lst : Nat → List Nat → Option Nat
  | _, [] => none
  | j, x :: l => if j < 9 then (if x < 128 then some j else lst (j + 1) l) else none
/-- The number of bytes, seven bits each. -/
def ev : List Nat → Nat
  | [] => 0
  | x :: l => x % 128 + 128 * ev l

theorem ev_lt : ∀ l : List Nat, ev l < 128 ^ l.length
  | [] => by simp [ev]
  | x :: l => by
    have := ev_lt l
    simp only [ev, List.length_cons, Nat.pow_succ]
    omega
theorem lst_nine (l : List Nat) : lst 9 l = none := by cases l <;> simp [lst]

theorem scan_some : ∀ (l : List Nat) (j n m : Nat), (∀ b ∈ l, b < 256) → j ≤ 8 → lst j l = some m →
    j ≤ m ∧ m ≤ 8 ∧ m - j < l.length ∧ (∀ i, i < m - j → ∀ b, l[i]? = some b → 128 ≤ b) ∧ (∃ b, l[m - j]? = some b ∧ b < 128 ∧ scan j n l = if b = 0 ∧ 0 < m then (0, m - j + 1, 21) else (n + ev (l.take (m - j + 1)) * 128 ^ j, m - j + 1, 0))
  | [], j, n, m, _, _, h => by simp [lst] at h
  | x :: l, j, n, m, hb, hj, h => by
    have hx := hb x (by simp)
    unfold lst at h
    rw [if_pos (by omega)] at h
    by_cases h1 : x < 128
    · rw [if_pos h1] at h
      cases h
      refine ⟨Nat.le_refl _, by omega, by simp, fun i hi => by omega, x, by simp, h1, ?_⟩
      by_cases h2 : x = 0 ∧ 0 < j
      · rw [if_pos h2, scan_form (.inl h2)]
        simp
      · rw [if_neg h2, scan_done h1 h2]
        simp [ev]
    · rw [if_neg h1] at h
      have h8 : j ≠ 8 := by
        rintro rfl
        rw [lst_nine] at h
        cases h
      obtain ⟨a1, a2, a3, a4, b, a5, a6, a7⟩ := scan_some l (j + 1) (n + x % 128 * 128 ^ j) m (fun b hm => hb b (by simp [hm])) (by omega) h
      have e : m - j = (m - (j + 1)) + 1 := by omega
      refine ⟨by omega, a2, by simp; omega, ?_, b, by rw [e]; simpa using a5, a6, ?_⟩
      · intro i hi c hc
        cases i with
        | zero => simp at hc; omega
        | succ i => exact a4 i (by omega) c (by simpa using hc)
      · rw [scan_more (by omega) hx h8, a7]
        by_cases h2 : b = 0 ∧ 0 < m
        · rw [if_pos h2, if_pos h2, e]
        · rw [if_neg h2, if_neg h2, e]
          simp only [List.take_succ_cons, ev, Prod.mk.injEq, and_true, true_and]
          rw [Nat.add_mul, Nat.pow_succ, Nat.mul_comm (128 ^ j) 128, ← Nat.mul_assoc, Nat.mul_comm (ev _) 128, Nat.add_assoc]

theorem scan_none : ∀ (l : List Nat) (j n : Nat), (∀ b ∈ l, b < 256) → j ≤ 8 → lst j l = none → scan j n l = if l.length < 9 - j then (0, l.length, 20) else (0, 9 - j, 21)
  | [], j, n, _, hj, _ => by simp [scan]; omega
  | x :: l, j, n, hb, hj, h => by
    have hx := hb x (by simp)
    unfold lst at h
    rw [if_pos (by omega)] at h
    by_cases h1 : x < 128
    · rw [if_pos h1] at h
      cases h
    · rw [if_neg h1] at h
      by_cases h8 : j = 8
      · rw [scan_form (.inr ⟨by omega, h8⟩), if_neg (by simp; omega)]
        subst h8
        rfl
      · rw [scan_more (by omega) hx h8, scan_none l (j + 1) _ (fun b hm => hb b (by simp [hm])) (by omega) h]
        by_cases h2 : l.length < 9 - (j + 1)
        · rw [if_pos h2, if_pos (by simp; omega)]
          simp
        · rw [if_neg h2, if_neg (by simp; omega)]
          simp
          omega

theorem bt_bS (l : List Nat) (i : Nat) (x : Nat) (h : l[i]? = some x) (hx : x < 256) : bt (bS l) (i : Int) = (x : Int) := by
  have hi := (List.getElem?_eq_some_iff.1 h).1
  have hsz : (bS l).size = l.length := by unfold bS; simp [ByteArray.size]
  have hlt : (i : Int).toNat < (bS l).size := by rw [hsz]; simpa using hi
  unfold bt
  rw [dif_pos hlt]
  have : l[i] = x := (List.getElem?_eq_some_iff.1 h).2
  simp [bS, ByteArray.getElem_eq_getElem_data, this, Nat.mod_eq_of_lt hx]

theorem last_l0 : ∀ (c : Nat) (l : List Nat) (i : Nat), (∀ b ∈ l, b < 256) → c = 9 - i → i ≤ 9 → ∀ k, 2 * c + 2 ≤ k → carabinerref02_last.l0 k (bS l) (i : Int) = some (match lst i (l.drop i) with | some m => (m : Int) | none => -1) := by
  intro c
  induction c with
  | zero =>
    intro l i hb hc hi k hk
    obtain rfl : i = 9 := by omega
    obtain ⟨k, rfl⟩ : ∃ k', k = k' + 2 := ⟨k - 2, by omega⟩
    rw [lst_nine]
    by_cases h : ((9 : Nat) : Int) < ((bS l).size : Int)
    · rw [carabinerref02_last.l0, if_pos h, carabinerref02_last.j1]
      simp
    · rw [carabinerref02_last.l0, if_neg h, carabinerref02_last.j1]
      simp
  | succ c ih =>
    intro l i hb hc hi k hk
    obtain ⟨k, rfl⟩ : ∃ k', k = k' + 2 := ⟨k - 2, by omega⟩
    have hsz : (bS l).size = l.length := by unfold bS; simp [ByteArray.size]
    by_cases h : i < l.length
    · obtain ⟨x, hx⟩ : ∃ x, l[i]? = some x := ⟨_, List.getElem?_eq_getElem h⟩
      have hx8 := hb x (List.mem_of_getElem? hx)
      rw [carabinerref02_last.l0, if_pos (by rw [hsz]; omega), carabinerref02_last.j1, if_pos (by simp; omega), if_pos (by omega), if_pos (by rw [hsz]; omega), bt_bS l i x hx hx8, drop_at hx]
      by_cases h1 : x < 128
      · rw [if_pos (by omega), lst, if_pos (by omega), if_pos h1]
      · rw [if_neg (by omega), lst, if_pos (by omega), if_neg h1, show wrap64 ((i : Int) + 1) = ((i + 1 : Nat) : Int) by rw [IntWalk.wrap64_in _ (by omega)]; omega]
        exact ih l (i + 1) hb (by omega) (by omega) k (by omega)
    · rw [carabinerref02_last.l0, if_neg (by rw [hsz]; omega), carabinerref02_last.j1, if_neg (by decide), List.drop_eq_nil_of_le (by omega)]
      rfl
end

/-! The bridge: ReadNum, ReadText, ReadBool, Read. -/
section

open Go.RowKit PReadText Go.Proofs.YthknfikjanoflaaW.PrintWords

theorem bS_drop (l : List Nat) (i : Nat) : (bS l).extract i (bS l).size = bS (l.drop i) := by
  apply Go.WideShapes.bytes_inj
  rw [bS_size]
  unfold bS
  simp [List.take_of_length_le]
theorem bS_take (l : List Nat) (i : Nat) : (bS l).extract 0 i = bS (l.take i) := by
  apply Go.WideShapes.bytes_inj
  unfold bS
  simp

theorem rn_l0 (l : List Nat) (hb : ∀ b ∈ l, b < 256) (m K : Nat) (limit : Int) (hm : m < l.length) (hm8 : m ≤ 8) (R : Option (ByteArray × Int × Int))
    (hfin : ∀ k, K ≤ k → carabinerref02_ReadNum.l0 k limit (m : Int) (ev (l.take (m + 1)) : Nat) (-1) (bS l) 0 = R) :
    ∀ i, i ≤ m + 1 → ∀ k, K + i ≤ k → carabinerref02_ReadNum.l0 k limit (m : Int) (ev ((l.take (m + 1)).drop i) : Nat) ((i : Int) - 1) (bS l) 0 = R := by
  intro i
  induction i with
  | zero => intro _ k hk; rw [List.drop_zero]; exact hfin k (by omega)
  | succ i ih =>
    intro hi k hk
    obtain ⟨k, rfl⟩ : ∃ k', k = k' + 1 := ⟨k - 1, by omega⟩
    obtain ⟨x, hx⟩ : ∃ x, l[i]? = some x := ⟨_, List.getElem?_eq_getElem (by omega)⟩
    have hx8 := hb x (List.mem_of_getElem? hx)
    have hx' : (l.take (m + 1))[i]? = some x := by rw [List.getElem?_take_of_lt (by omega)]; exact hx
    have hev : ev ((l.take (m + 1)).drop i) = x % 128 + 128 * ev ((l.take (m + 1)).drop (i + 1)) := by rw [drop_at hx']; rfl
    have hlt := ev_lt ((l.take (m + 1)).drop (i + 1))
    have hl8 : ((l.take (m + 1)).drop (i + 1)).length ≤ 8 := by simp; omega
    have hlt8 : ev ((l.take (m + 1)).drop (i + 1)) < 72057594037927936 := Nat.lt_of_lt_of_le hlt (Nat.le_trans (Nat.pow_le_pow_right (by omega) hl8) (by decide))
    have e0 : ((i + 1 : Nat) : Int) - 1 = (i : Int) := by omega
    rw [e0, carabinerref02_ReadNum.l0, if_pos (by omega), if_pos (by omega), if_pos (by rw [bS_size]; omega), bt_bS l i x hx hx8]
    have e1 : wrap64 (wrap64 (((ev ((l.take (m + 1)).drop (i + 1)) : Nat) : Int) * 128) + Int.tmod (wrap64 (x : Int)) 128) = ((ev ((l.take (m + 1)).drop i) : Nat) : Int) := by
      rw [hev, IntWalk.wrap64_in (x : Int) (by omega), IntWalk.wrap64_in (((ev ((l.take (m + 1)).drop (i + 1)) : Nat) : Int) * 128) (by omega), Int.tmod_eq_emod_of_nonneg (by omega), IntWalk.wrap64_in _ (by omega)]
      omega
    rw [e1, IntWalk.wrap64_in _ (by omega)]
    exact ih (by omega) k (by omega)

/-- The reference's Num at any number that nine bytes hold. -/
theorem numf_all (n : Nat) : ∃ K, ∀ k, K ≤ k → carabinerref02_Num.f k (n : Int) = some (if n ≤ 4611686018427387904 then bS (encN n) else bS []) := by
  by_cases h : n ≤ 4611686018427387904
  · rw [if_pos h]
    exact numf n h
  · refine ⟨2, fun k hk => ?_⟩
    obtain ⟨k, rfl⟩ : ∃ k', k = k' + 2 := ⟨k - 2, by omega⟩
    rw [if_neg h, carabinerref02_Num.f, if_neg (by omega), show decide ((n : Int) > 4611686018427387904) = true by simp; omega, carabinerref02_Num.j0, if_pos rfl]
    rfl

/-- ReadNum of a reader without an error. -/
theorem readnum_ok (l : List Nat) (hb : ∀ b ∈ l, b < 256) (limit : Int) : ∃ K, ∀ k, K ≤ k → carabinerref02_ReadNum.f k (bS l) 0 limit = some (bS (l.drop (numF limit l).2.1), (numF limit l).2.2, ((numF limit l).1 : Int)) := by
  cases hl : lst 0 l with
  | none =>
    have hs := scan_none l 0 0 hb (by omega) hl
    refine ⟨21, fun k hk => ?_⟩
    obtain ⟨k, rfl⟩ : ∃ k', k = k' + 1 := ⟨k - 1, by omega⟩
    have hlast := last_l0 9 l 0 hb rfl (by omega) (k + 1) (by omega)
    rw [List.drop_zero, hl] at hlast
    have hlast' : carabinerref02_last.f (k + 1) (bS l) = some (-1) := hlast
    by_cases h9 : l.length < 9
    · rw [if_pos (by omega)] at hs
      rw [numF_err hs (by decide), List.drop_length]
      unfold carabinerref02_ReadNum.f
      rw [if_pos rfl, hlast', Option.bind_some, if_pos (by decide), show decide (((bS l).size : Int) < 9) = true by rw [bS_size]; simp; omega, carabinerref02_ReadNum.j0, if_pos rfl]
      rfl
    · rw [if_neg (by omega)] at hs
      rw [numF_err hs (by decide)]
      unfold carabinerref02_ReadNum.f
      rw [if_pos rfl, hlast', Option.bind_some, if_pos (by decide), show decide (((bS l).size : Int) < 9) = false by rw [bS_size]; simp; omega, carabinerref02_ReadNum.j0, if_neg (by decide), if_pos (by decide), if_pos (by rw [bS_size]; omega), bS_drop]
      rfl
  | some m =>
    obtain ⟨_, hm8, hml, _, b, hbm, hb128, hs⟩ := scan_some l 0 0 m hb (by omega) hl
    simp only [Nat.sub_zero, Nat.pow_zero, Nat.mul_one, Nat.zero_add] at hml hbm hs
    obtain ⟨n, hn⟩ : ∃ n, n = ev (l.take (m + 1)) := ⟨_, rfl⟩
    rw [← hn] at hs
    obtain ⟨K1, hK1⟩ := numf_all n
    have hw : wrap64 ((m : Int) + 1) = ((m + 1 : Nat) : Int) := by rw [IntWalk.wrap64_in _ (by omega)]; omega
    have htl : ∀ b ∈ l.take (m + 1), b < 256 := fun b h => hb b (List.mem_of_mem_take h)
    have hinj : ∀ l1 l2 : List Nat, (∀ b ∈ l1, b < 256) → (∀ b ∈ l2, b < 256) → (bS l1).toList = (bS l2).toList → l1 = l2 := by
      intro l1 l2 h1 h2 e
      rw [ByteArray.toList_eq, ByteArray.toList_eq] at e
      have := Go.WideShapes.bytes_inj e
      rw [← sB_bS h1, ← sB_bS h2, this]
    -- what the last step gives
    have hfin : ∀ k, K1 + 1 ≤ k → carabinerref02_ReadNum.l0 k limit (m : Int) (ev (l.take (m + 1)) : Nat) (-1) (bS l) 0 = some (bS (l.drop (numF limit l).2.1), (numF limit l).2.2, ((numF limit l).1 : Int)) := by
      intro k hk
      obtain ⟨k, rfl⟩ : ∃ k', k = k' + 1 := ⟨k - 1, by omega⟩
      rw [← hn, carabinerref02_ReadNum.l0, if_neg (by decide), hw, if_pos (by omega), if_pos (by rw [bS_size]; omega), hK1 k (by omega), Option.bind_some, Int.toNat_natCast, bS_take, bS_drop]
      by_cases hbad : b = 0 ∧ 0 < m
      · rw [if_pos hbad] at hs
        rw [numF_err hs (by decide), if_neg]
        · rfl
        · intro e
          split at e
          · rename_i h62
            have e2 := hinj _ _ (encN_lt n) htl e
            have h3 := scan_enc n 0 0 (l.drop (m + 1)) (by simp; omega) (by omega) (.inr rfl)
            rw [e2, List.take_append_drop, hs] at h3
            simp at h3
          · have e2 := hinj _ _ (by simp) htl e
            have e3 := congrArg List.length e2
            simp at e3
            omega
      · rw [if_neg hbad] at hs
        obtain ⟨m', e1, e2, _, _⟩ := scan_inv l 0 0 _ _ hb (by omega) hs
        simp only [Nat.pow_zero, Nat.mul_one, Nat.zero_add] at e1
        subst e1
        by_cases h62 : n ≤ 4611686018427387904
        · rw [if_pos h62, e2, if_pos rfl]
          by_cases hlim : (n : Int) ≤ limit
          · rw [numF_ok hs h62 hlim, if_neg (by omega)]
          · rw [numF_form hs (fun h => hlim h.2), if_pos (by omega)]
            rfl
        · rw [if_neg h62, numF_form hs (fun h => h62 h.1), if_neg]
          · rfl
          · intro e
            have e2 := hinj _ _ (by simp) htl e
            have e3 := congrArg List.length e2
            simp at e3
            omega
    refine ⟨K1 + m + 30, fun k hk => ?_⟩
    have hlast := last_l0 9 l 0 hb rfl (by omega) k (by omega)
    rw [List.drop_zero, hl] at hlast
    have hlast' : carabinerref02_last.f k (bS l) = some (m : Int) := hlast
    have h0 := rn_l0 l hb m (K1 + 1) limit hml hm8 _ hfin (m + 1) (Nat.le_refl _) (k - 1) (by omega)
    unfold carabinerref02_ReadNum.f
    obtain ⟨k, rfl⟩ : ∃ k', k = k' + 1 := ⟨k - 1, by omega⟩
    rw [if_pos rfl, hlast', Option.bind_some, if_neg (by omega), carabinerref02_ReadNum.j0, if_neg (by decide), if_neg (by omega)]
    have hd : (l.take (m + 1)).drop (m + 1) = [] := List.drop_eq_nil_of_le (by simp; omega)
    rw [hd, show ((m + 1 : Nat) : Int) - 1 = (m : Int) by omega] at h0
    exact h0
end

/-! The bridge: ReadText, ReadBool. -/
section

open Go.RowKit PReadText Go.Proofs.YthknfikjanoflaaW.PrintWords

theorem readtext_ok (l : List Nat) (hb : ∀ b ∈ l, b < 256) (limit : Int) : ∃ K, ∀ k, K ≤ k → carabinerref02_ReadText.f k (bS l) 0 limit = some (bS (l.drop (textE 0 limit l).2.1), (textE 0 limit l).2.2, bS (textE 0 limit l).1) := by
  obtain ⟨K, hK⟩ := readnum_ok l hb limit
  refine ⟨K, fun k hk => ?_⟩
  have hnum : numE 0 limit l = numF limit l := by unfold numE; rw [if_pos rfl]
  obtain ⟨⟨v, c, e⟩, hq⟩ : ∃ q, numF limit l = q := ⟨_, rfl⟩
  have h := hK k hk
  rw [hq] at h
  unfold carabinerref02_ReadText.f textE
  rw [h, Option.bind_some, hnum, hq]
  by_cases he : e = 0
  · subst he
    simp only [if_true]
    by_cases hv : v ≤ (l.drop c).length
    · rw [if_pos hv, if_neg (by rw [bS_size]; omega), if_pos (by omega), if_pos (by rw [bS_size]; omega), Int.toNat_natCast, bS_drop, bS_take, List.drop_drop]
    · rw [if_neg hv, if_pos (by rw [bS_size]; omega)]
      rfl
  · simp only [if_neg he]
    rfl

end
end Go.Proofs.Ythknfikjanoflaa
