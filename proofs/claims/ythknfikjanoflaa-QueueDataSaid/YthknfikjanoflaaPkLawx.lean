/- The plain laws of pack's numbers: what is written is read, and only that. -/
import Derived.Test.YthknfikjanoflaaPkXx
set_option linter.unusedVariables false
set_option linter.unusedSimpArgs false
namespace Go.Proofs.Ythknfikjanoflaa

theorem scan_enc : ∀ (m j acc : Nat) (rest : List Nat), m < 128 ^ (9 - j) → j ≤ 8 → (m ≠ 0 ∨ j = 0) → scan j acc (encN m ++ rest) = (acc + m * 128 ^ j, (encN m).length, 0) := by
  intro m
  induction m using Nat.strongRecOn with
  | _ m ih =>
    intro j acc rest hm hj h0
    by_cases h : m < 128
    · rw [encN_small h, List.singleton_append, scan_done h (by omega), Nat.mod_eq_of_lt h]
      rfl
    · have hj8 : j ≠ 8 := by rintro rfl; simp at hm; omega
      have hd : m / 128 < 128 ^ (9 - (j + 1)) := by
        rw [show 9 - j = (9 - (j + 1)) + 1 by omega, Nat.pow_succ] at hm
        omega
      rw [encN_big (by omega), List.cons_append, scan_more (by omega) (by omega) hj8, ih (m / 128) (by omega) (j + 1) _ rest hd (by omega) (.inl (by omega))]
      have e : acc + (m % 128 + 128) % 128 * 128 ^ j + m / 128 * 128 ^ (j + 1) = acc + m * 128 ^ j := by
        rw [show (m % 128 + 128) % 128 = m % 128 by omega, Nat.pow_succ, Nat.add_assoc, Nat.mul_comm (128 ^ j) 128, ← Nat.mul_assoc, ← Nat.add_mul]
        congr 2
        omega
      simp only [e, List.length_cons]

theorem numF_enc {m : Nat} (hm : m ≤ 4611686018427387904) (limit : Int) (rest : List Nat) : numF limit (encN m ++ rest) = if (m : Int) ≤ limit then (m, (encN m).length, 0) else (0, (encN m).length, 21) := by
  have h := scan_enc m 0 0 rest (by simp; omega) (by omega) (.inr rfl)
  simp only [Nat.zero_add, Nat.pow_zero, Nat.mul_one] at h
  by_cases hl : (m : Int) ≤ limit
  · rw [if_pos hl, numF_ok h hm hl]
  · rw [if_neg hl, numF_form h (fun e => hl e.2)]

theorem scan_inv : ∀ (l : List Nat) (j acc v c : Nat), (∀ b ∈ l, b < 256) → j ≤ 8 → scan j acc l = (v, c, 0) → ∃ m, v = acc + m * 128 ^ j ∧ l.take c = encN m ∧ (0 < j → m ≠ 0) ∧ c ≤ l.length
  | [], j, acc, v, c, _, _, h => by simp [scan] at h
  | x :: l, j, acc, v, c, hb, hj, h => by
    have hx := hb x (by simp)
    by_cases h1 : x < 128
    · by_cases h2 : x = 0 ∧ 0 < j
      · rw [scan_form (.inl h2)] at h
        simp at h
      · rw [scan_done h1 h2] at h
        simp at h
        obtain ⟨rfl, rfl⟩ := h
        exact ⟨x, by rw [Nat.mod_eq_of_lt h1], by rw [encN_small h1]; simp, by omega, by simp⟩
    · by_cases h2 : j = 8
      · rw [scan_form (.inr ⟨by omega, h2⟩)] at h
        simp at h
      · rw [scan_more (by omega) hx h2] at h
        obtain ⟨⟨v1, c1, x1⟩, hq⟩ : ∃ q, scan (j + 1) (acc + x % 128 * 128 ^ j) l = q := ⟨_, rfl⟩
        rw [hq] at h
        simp only [Prod.mk.injEq] at h
        obtain ⟨rfl, rfl, rfl⟩ := h
        obtain ⟨m, e1, e2, e3, e4⟩ := scan_inv l (j + 1) _ _ _ (fun b hm => hb b (by simp [hm])) (by omega) hq
        refine ⟨x % 128 + m * 128, ?_, ?_, fun _ => by have := e3 (by omega); omega, by simpa using e4⟩
        · rw [e1, Nat.add_mul, Nat.pow_succ, Nat.mul_comm (128 ^ j) 128, Nat.mul_assoc, Nat.add_assoc]
        · rw [List.take_succ_cons, e2, encN_big (n := x % 128 + m * 128) (by have := e3 (by omega); omega)]
          rw [show (x % 128 + m * 128) / 128 = m by omega, show (x % 128 + m * 128) % 128 + 128 = x by omega]

theorem encN_lt : ∀ (m : Nat), ∀ b ∈ encN m, b < 256 := by
  intro m
  induction m using Nat.strongRecOn with
  | _ m ih =>
    intro b hb
    by_cases h : m < 128
    · rw [encN_small h] at hb
      simp at hb
      omega
    · rw [encN_big (by omega)] at hb
      rcases List.mem_cons.1 hb with rfl | hb
      · omega
      · exact ih _ (by omega) b hb

theorem encN_inj {m n : Nat} (hm : m ≤ 4611686018427387904) (hn : n ≤ 4611686018427387904) (h : encN m = encN n) : m = n := by
  have h1 := numF_enc hm 4611686018427387904 []
  have h2 := numF_enc hn 4611686018427387904 []
  rw [h, h2, if_pos (by omega), if_pos (by omega)] at h1
  exact (Prod.mk.inj h1).1.symm

theorem encN_mono : ∀ (m n : Nat), m ≤ n → (encN m).length ≤ (encN n).length := by
  intro m
  induction m using Nat.strongRecOn with
  | _ m ih =>
    intro n h
    by_cases h1 : m < 128
    · rw [encN_small h1]
      exact encN_pos n
    · rw [encN_big (by omega), encN_big (n := n) (by omega)]
      simp only [List.length_cons]
      have := ih (m / 128) (by omega) (n / 128) (by omega)
      omega
end Go.Proofs.Ythknfikjanoflaa
