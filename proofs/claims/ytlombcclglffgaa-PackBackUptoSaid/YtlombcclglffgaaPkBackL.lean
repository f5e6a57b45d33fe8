/- What was written is read as it was; cut, it is short. No program in sight. -/
import Derived.Test.YtlombcclglffgaaPkWrite
set_option linter.unusedVariables false
set_option linter.unusedSimpArgs false
namespace Go.Proofs.Ytlombcclglffgaa
open Go.RowKit

def lifted (p : PartD) : PartD := ⟨p.k, p.n, 4611686018427387904, p.s, p.is⟩

theorem numE_enc {m : Nat} (hm : m ≤ 4611686018427387904) (rest : List Nat) : numE 0 4611686018427387904 (encN m ++ rest) = (m, (encN m).length, 0) := by
  unfold numE
  rw [if_pos rfl, numF_enc hm, if_pos (by omega)]

theorem part_back (p : PartD) (h : (partW p).2 = true) (rest : List Nat) : ∃ q, partE 0 ((partW p).1 ++ rest) (lifted p) = (q, (partW p).1.length, 0) ∧ (p.k = 0 → q.n = p.n) ∧ (p.k = 1 → q.s = p.s) ∧ (p.k = 2 → q.is = p.is) := by
  unfold partW at h ⊢
  unfold partE
  by_cases h0 : p.k = 0
  · rw [if_pos h0] at h ⊢
    split at h
    · rename_i hn
      rw [if_pos hn, if_pos (show (lifted p).k = 0 from h0), show (lifted p).most = 4611686018427387904 from rfl, numE_enc (by omega)]
      exact ⟨_, rfl, fun _ => by simp only; omega, fun h => by omega, fun h => by omega⟩
    · cases h
  · rw [if_neg h0] at h ⊢
    rw [if_neg (show ¬ (lifted p).k = 0 from h0)]
    by_cases h1 : p.k = 1
    · rw [if_pos h1] at h ⊢
      rw [if_pos (show (lifted p).k = 1 from h1)]
      split at h
      · rename_i hs
        rw [if_pos hs]
        have he : textE 0 (lifted p).most (encN p.s.size ++ sB p.s ++ rest) = (sB p.s, (encN p.s.size ++ sB p.s).length, 0) := by
          unfold textE
          rw [show (lifted p).most = 4611686018427387904 from rfl, List.append_assoc, numE_enc (by omega)]
          simp only [if_true]
          rw [List.drop_left, List.length_append, sB_length, if_pos (by omega), List.length_append, sB_length, ← sB_length, List.take_left, sB_length]
        rw [he]
        exact ⟨_, rfl, fun h => by omega, fun _ => bS_sB _, fun h => by omega⟩
      · cases h
    · rw [if_neg h1] at h ⊢
      rw [if_neg (show ¬ (lifted p).k = 1 from h1)]
      by_cases h2 : p.k = 2
      · rw [if_pos h2] at h ⊢
        rw [if_pos (show (lifted p).k = 2 from h2)]
        have hb : boolE 0 ([p.is.toNat] ++ rest) = (p.is, 1, 0) := by
          unfold boolE
          rw [if_pos rfl]
          cases p.is <;> simp
        rw [hb]
        exact ⟨_, rfl, fun h => by omega, fun h => by omega, fun _ => rfl⟩
      · rw [if_neg h2] at h ⊢
        rw [if_neg (show ¬ (lifted p).k = 2 from h2)]
        exact ⟨_, rfl, fun h => by omega, fun h => by omega, fun h => by omega⟩

theorem scan_cut : ∀ (m n j acc : Nat), n < 128 ^ (9 - j) → j ≤ 8 → m < (encN n).length → (scan j acc ((encN n).take m)).2.2 = 20 := by
  intro m
  induction m with
  | zero => intro n j acc _ _ _; simp [scan]
  | succ m ih =>
    intro n j acc hn hj hm
    by_cases h : n < 128
    · rw [encN_small h] at hm
      simp at hm
    · have hj8 : j ≠ 8 := by rintro rfl; simp at hn; omega
      rw [encN_big (by omega)] at hm ⊢
      have hd : n / 128 < 128 ^ (9 - (j + 1)) := by
        rw [show 9 - j = (9 - (j + 1)) + 1 by omega, Nat.pow_succ] at hn
        omega
      rw [List.take_succ_cons, scan_more (by omega) (by omega) hj8]
      exact ih (n / 128) (j + 1) _ hd (by omega) (by simpa using hm)

theorem numE_cut {n m : Nat} (hn : n ≤ 4611686018427387904) (hm : m < (encN n).length) (limit : Int) : ∃ c, numE 0 limit ((encN n).take m) = (0, c, 20) := by
  have h := scan_cut m n 0 0 (by simp; omega) (by omega) hm
  unfold numE
  rw [if_pos rfl]
  exact ⟨_, numF_err (v := (scan 0 0 ((encN n).take m)).1) (c := (scan 0 0 ((encN n).take m)).2.1) (e := 20) (by rw [← h]) (by omega)⟩

theorem part_cut (p : PartD) (h : (partW p).2 = true) (m : Nat) (hm : m < (partW p).1.length) : ∃ q c, partE 0 ((partW p).1.take m) (lifted p) = (q, c, 20) := by
  unfold partW at h hm ⊢
  unfold partE
  by_cases h0 : p.k = 0
  · rw [if_pos h0] at h hm ⊢
    split at h
    · rename_i hn
      rw [if_pos hn] at hm ⊢
      rw [if_pos (show (lifted p).k = 0 from h0)]
      obtain ⟨c, hc⟩ := numE_cut (by omega) hm (lifted p).most
      rw [hc]
      exact ⟨_, _, rfl⟩
    · cases h
  · rw [if_neg h0] at h hm ⊢
    rw [if_neg (show ¬ (lifted p).k = 0 from h0)]
    by_cases h1 : p.k = 1
    · rw [if_pos h1] at h hm ⊢
      rw [if_pos (show (lifted p).k = 1 from h1)]
      split at h
      · rename_i hs
        rw [if_pos hs] at hm ⊢
        by_cases hc : m < (encN p.s.size).length
        · rw [List.take_append_of_le_length (by omega)]
          obtain ⟨c, he⟩ := numE_cut (by omega) hc (lifted p).most
          have ht : textE 0 (lifted p).most ((encN p.s.size).take m) = ([], c, 20) := by
            unfold textE
            rw [he]
            simp
          rw [ht]
          exact ⟨_, _, rfl⟩
        · have ht : textE 0 (lifted p).most ((encN p.s.size ++ sB p.s).take m) = ([], (encN p.s.size).length, 20) := by
            unfold textE
            rw [List.take_append, List.take_of_length_le (by omega), show (lifted p).most = 4611686018427387904 from rfl, numE_enc (by omega)]
            simp only [if_true]
            rw [List.drop_left, if_neg (by
              simp only [List.length_take, sB_length]
              simp only [List.length_append, sB_length] at hm
              omega)]
          rw [ht]
          exact ⟨_, _, rfl⟩
      · cases h
    · rw [if_neg h1] at h hm ⊢
      rw [if_neg (show ¬ (lifted p).k = 1 from h1)]
      by_cases h2 : p.k = 2
      · rw [if_pos h2] at h hm ⊢
        rw [if_pos (show (lifted p).k = 2 from h2)]
        simp at hm
        subst hm
        exact ⟨_, _, rfl⟩
      · rw [if_neg h2] at hm
        simp at hm

/-- Behind the error. -/
theorem part_err (p : PartD) (l : List Nat) (e : Int) (he : e ≠ 0) : ∃ q, partE e l p = (q, 0, e) := by
  obtain ⟨_, h2⟩ := read_err (bS []) l e he p 0
  exact ⟨_, Prod.ext rfl h2⟩
end Go.Proofs.Ytlombcclglffgaa
