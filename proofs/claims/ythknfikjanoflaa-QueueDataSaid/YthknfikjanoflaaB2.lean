/- The bridge from the printed form of the reference's readers to numE, textE, boolE: plain. -/
import Derived.Test.YthknfikjanoflaaB1
set_option linter.unusedVariables false
set_option linter.unusedSimpArgs false
namespace Go.Proofs.Ythknfikjanoflaa
open Go.RowKit PReadText Go.Proofs.YthknfikjanoflaaW.PrintWords

/-- The place of the first byte below 128 among the first nine. -/
def lst : Nat → List Nat → Option Nat
  | _, [] => none
  | j, x :: l => if j < 9 then (if x < 128 then some j else lst (j + 1) l) else none
/-- The number of bytes, seven bits each. -/
def ev : List Nat → Nat
  | [] => 0
  | x :: l => x % 128 + 128 * ev l

theorem ev_lt : ∀ l : List Nat, ev l < 128 ^ l.length
  | [] => by simp [ev]
  | x :: l => by
    have := ev_lt l
    simp only [ev, List.length_cons, Nat.pow_succ]
    omega
theorem lst_nine (l : List Nat) : lst 9 l = none := by cases l <;> simp [lst]

theorem scan_some : ∀ (l : List Nat) (j n m : Nat), (∀ b ∈ l, b < 256) → j ≤ 8 → lst j l = some m →
    j ≤ m ∧ m ≤ 8 ∧ m - j < l.length ∧ (∀ i, i < m - j → ∀ b, l[i]? = some b → 128 ≤ b) ∧ (∃ b, l[m - j]? = some b ∧ b < 128 ∧ scan j n l = if b = 0 ∧ 0 < m then (0, m - j + 1, 21) else (n + ev (l.take (m - j + 1)) * 128 ^ j, m - j + 1, 0))
  | [], j, n, m, _, _, h => by simp [lst] at h
  | x :: l, j, n, m, hb, hj, h => by
    have hx := hb x (by simp)
    unfold lst at h
    rw [if_pos (by omega)] at h
    by_cases h1 : x < 128
    · rw [if_pos h1] at h
      cases h
      refine ⟨Nat.le_refl _, by omega, by simp, fun i hi => by omega, x, by simp, h1, ?_⟩
      by_cases h2 : x = 0 ∧ 0 < j
      · rw [if_pos h2, scan_form (.inl h2)]
        simp
      · rw [if_neg h2, scan_done h1 h2]
        simp [ev]
    · rw [if_neg h1] at h
      have h8 : j ≠ 8 := by
        rintro rfl
        rw [lst_nine] at h
        cases h
      obtain ⟨a1, a2, a3, a4, b, a5, a6, a7⟩ := scan_some l (j + 1) (n + x % 128 * 128 ^ j) m (fun b hm => hb b (by simp [hm])) (by omega) h
      have e : m - j = (m - (j + 1)) + 1 := by omega
      refine ⟨by omega, a2, by simp; omega, ?_, b, by rw [e]; simpa using a5, a6, ?_⟩
      · intro i hi c hc
        cases i with
        | zero => simp at hc; omega
        | succ i => exact a4 i (by omega) c (by simpa using hc)
      · rw [scan_more (by omega) hx h8, a7]
        by_cases h2 : b = 0 ∧ 0 < m
        · rw [if_pos h2, if_pos h2, e]
        · rw [if_neg h2, if_neg h2, e]
          simp only [List.take_succ_cons, ev, Prod.mk.injEq, and_true, true_and]
          rw [Nat.add_mul, Nat.pow_succ, Nat.mul_comm (128 ^ j) 128, ← Nat.mul_assoc, Nat.mul_comm (ev _) 128, Nat.add_assoc]

theorem scan_none : ∀ (l : List Nat) (j n : Nat), (∀ b ∈ l, b < 256) → j ≤ 8 → lst j l = none → scan j n l = if l.length < 9 - j then (0, l.length, 20) else (0, 9 - j, 21)
  | [], j, n, _, hj, _ => by simp [scan]; omega
  | x :: l, j, n, hb, hj, h => by
    have hx := hb x (by simp)
    unfold lst at h
    rw [if_pos (by omega)] at h
    by_cases h1 : x < 128
    · rw [if_pos h1] at h
      cases h
    · rw [if_neg h1] at h
      by_cases h8 : j = 8
      · rw [scan_form (.inr ⟨by omega, h8⟩), if_neg (by simp; omega)]
        subst h8
        rfl
      · rw [scan_more (by omega) hx h8, scan_none l (j + 1) _ (fun b hm => hb b (by simp [hm])) (by omega) h]
        by_cases h2 : l.length < 9 - (j + 1)
        · rw [if_pos h2, if_pos (by simp; omega)]
          simp
        · rw [if_neg h2, if_neg (by simp; omega)]
          simp
          omega

theorem bt_bS (l : List Nat) (i : Nat) (x : Nat) (h : l[i]? = some x) (hx : x < 256) : bt (bS l) (i : Int) = (x : Int) := by
  have hi := (List.getElem?_eq_some_iff.1 h).1
  have hsz : (bS l).size = l.length := by unfold bS; simp [ByteArray.size]
  have hlt : (i : Int).toNat < (bS l).size := by rw [hsz]; simpa using hi
  unfold bt
  rw [dif_pos hlt]
  have : l[i] = x := (List.getElem?_eq_some_iff.1 h).2
  simp [bS, ByteArray.getElem_eq_getElem_data, this, Nat.mod_eq_of_lt hx]

theorem last_l0 : ∀ (c : Nat) (l : List Nat) (i : Nat), (∀ b ∈ l, b < 256) → c = 9 - i → i ≤ 9 → ∀ k, 2 * c + 2 ≤ k → carabinerref02_last.l0 k (bS l) (i : Int) = some (match lst i (l.drop i) with | some m => (m : Int) | none => -1) := by
  intro c
  induction c with
  | zero =>
    intro l i hb hc hi k hk
    obtain rfl : i = 9 := by omega
    obtain ⟨k, rfl⟩ : ∃ k', k = k' + 2 := ⟨k - 2, by omega⟩
    rw [lst_nine]
    by_cases h : ((9 : Nat) : Int) < ((bS l).size : Int)
    · rw [carabinerref02_last.l0, if_pos h, carabinerref02_last.j1]
      simp
    · rw [carabinerref02_last.l0, if_neg h, carabinerref02_last.j1]
      simp
  | succ c ih =>
    intro l i hb hc hi k hk
    obtain ⟨k, rfl⟩ : ∃ k', k = k' + 2 := ⟨k - 2, by omega⟩
    have hsz : (bS l).size = l.length := by unfold bS; simp [ByteArray.size]
    by_cases h : i < l.length
    · obtain ⟨x, hx⟩ : ∃ x, l[i]? = some x := ⟨_, List.getElem?_eq_getElem h⟩
      have hx8 := hb x (List.mem_of_getElem? hx)
      rw [carabinerref02_last.l0, if_pos (by rw [hsz]; omega), carabinerref02_last.j1, if_pos (by simp; omega), if_pos (by omega), if_pos (by rw [hsz]; omega), bt_bS l i x hx hx8, drop_at hx]
      by_cases h1 : x < 128
      · rw [if_pos (by omega), lst, if_pos (by omega), if_pos h1]
      · rw [if_neg (by omega), lst, if_pos (by omega), if_neg h1, show wrap64 ((i : Int) + 1) = ((i + 1 : Nat) : Int) by rw [IntWalk.wrap64_in _ (by omega)]; omega]
        exact ih l (i + 1) hb (by omega) (by omega) k (by omega)
    · rw [carabinerref02_last.l0, if_neg (by rw [hsz]; omega), carabinerref02_last.j1, if_neg (by decide), List.drop_eq_nil_of_le (by omega)]
      rfl
end Go.Proofs.Ythknfikjanoflaa
