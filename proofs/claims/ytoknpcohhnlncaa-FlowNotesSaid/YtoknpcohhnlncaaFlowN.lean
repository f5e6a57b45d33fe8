/- The reference's Note and Parse of flow answer as the program's. -/
import Derived.Test.YtoknpcohhnlncaaB4
import Derived.Test.YtoknpcohhnlncaaFlowP
set_option linter.unusedVariables false
set_option linter.unusedSimpArgs false
namespace Go.Proofs.Ytoknpcohhnlncaa
open Go.RowKit PFlowNotes Go.Proofs.YtoknpcohhnlncaaW.PrintWords

def noteR (step : Int) (v : ByteArray) : ByteArray × Bool := match noteF step v with
  | some l => (bS l, true)
  | none => (⟨#[]⟩, false)
theorem refnote_ok (step : Int) (v : ByteArray) : ∃ K, ∀ k, K ≤ k → carabinerref20_Note.f k step v = some (noteR step v) := by
  by_cases hn : 0 ≤ step ∧ step < 64 ∧ v.size ≤ 900
  · have hr : noteR step v = (bS (encN step.toNat ++ (encN v.size ++ sB v)), true) := by unfold noteR noteF; rw [if_pos hn]
    obtain ⟨K1, h1⟩ := numf step.toNat (by omega)
    obtain ⟨K2, h2⟩ := numf v.size (by omega)
    refine ⟨K1 + K2 + 1, fun k hk => ?_⟩
    obtain ⟨k, rfl⟩ : ∃ k', k = k' + 1 := ⟨k - 1, by omega⟩
    have e1 := h1 k (by omega)
    rw [Int.toNat_of_nonneg hn.1] at e1
    have l1 := encN_len 8 step.toNat (by omega)
    have l2 := encN_len 8 v.size (by omega)
    have e2 : carabinerref02_Text.f k v = some (bS (encN v.size ++ sB v)) := by
      unfold carabinerref02_Text.f
      rw [h2 k (by omega), Option.bind_some, if_pos (by rw [bS_size]; omega), ← bS_add, bS_sB]
    unfold carabinerref20_Note.f
    rw [if_neg (by omega), if_neg (by omega), show decide ((v.size : Int) > 900) = false by simp; omega]
    rw [carabinerref20_Note.j0, if_neg (by decide), e1, Option.bind_some, e2, Option.bind_some, if_pos (by rw [bS_size, bS_size, List.length_append, sB_length]; omega), bS_add, hr]
  · have hr : noteR step v = (⟨#[]⟩, false) := by unfold noteR noteF; rw [if_neg hn]
    refine ⟨1, fun k hk => ?_⟩
    obtain ⟨k, rfl⟩ : ∃ k', k = k' + 1 := ⟨k - 1, by omega⟩
    unfold carabinerref20_Note.f
    rw [hr]
    by_cases h0 : step < 0
    · rw [if_pos h0]
      rfl
    · rw [if_neg h0]
      by_cases h1 : step > 63
      · rw [if_pos h1]
        rfl
      · rw [if_neg h1, show decide ((v.size : Int) > 900) = true by simp; omega]
        rfl

theorem refparse_l0 (s B1 B2 v : ByteArray) (n : Nat) (e1 e2 : Int) (K0 : Nat) (h1 : ∀ k, K0 ≤ k → carabinerref02_ReadNum.f k s 0 63 = some (B1, e1, (n : Int))) (h2 : ∀ k, K0 ≤ k → carabinerref02_ReadText.f k B1 e1 900 = some (B2, e2, v)) :
    ∀ (d x : Nat), d + x = 64 → ∃ K, ∀ k, K ≤ k → carabinerref20_Parse.l0 k s (x : Int) = some (if x ≤ n ∧ n < 64 ∧ e2 = 0 ∧ (noteR n v).2 = true ∧ (noteR n v).1.toList = s.toList then ((n : Int), v, true) else (0, ⟨#[]⟩, false))
  | 0, x, hx => by
    refine ⟨1, fun k hk => ?_⟩
    obtain ⟨k, rfl⟩ : ∃ k', k = k' + 1 := ⟨k - 1, by omega⟩
    unfold carabinerref20_Parse.l0
    rw [if_neg (by omega), if_neg (by omega)]
  | d + 1, x, hx => by
    obtain ⟨K1, hK1⟩ := refparse_l0 s B1 B2 v n e1 e2 K0 h1 h2 d (x + 1) (by omega)
    obtain ⟨K2, hK2⟩ := refnote_ok (x : Int) v
    refine ⟨K0 + K1 + K2 + 1, fun k hk => ?_⟩
    obtain ⟨k, rfl⟩ : ∃ k', k = k' + 1 := ⟨k - 1, by omega⟩
    have hw : wrap64 ((x : Int) + 1) = ((x + 1 : Nat) : Int) := by unfold wrap64; omega
    unfold carabinerref20_Parse.l0
    rw [if_pos (by omega), h1 k (by omega), Option.bind_some]
    simp only
    rw [h2 k (by omega), Option.bind_some]
    simp only
    rw [hK2 k (by omega), Option.bind_some, hw, hK1 k (by omega)]
    by_cases a1 : e2 = 0
    · by_cases a2 : n = x
      · subst a2
        by_cases a3 : (noteR n v).2 = true
        · by_cases a4 : (noteR n v).1.toList = s.toList
          · rw [if_pos a1, if_pos rfl, if_pos a3, if_pos a4, if_pos ⟨Nat.le_refl _, by omega, a1, a3, a4⟩]
          · rw [if_pos a1, if_pos rfl, if_pos a3, if_neg a4, if_neg (by omega), if_neg (fun h => a4 h.2.2.2.2)]
        · rw [if_pos a1, if_pos rfl, if_neg a3, if_neg (by omega), if_neg (fun h => a3 h.2.2.2.1)]
      · rw [if_pos a1, if_neg (by omega)]
        by_cases hc : n < 64 ∧ e2 = 0 ∧ (noteR n v).2 = true ∧ (noteR n v).1.toList = s.toList
        · by_cases hx2 : x ≤ n
          · rw [if_pos ⟨by omega, hc⟩, if_pos ⟨hx2, hc⟩]
          · rw [if_neg (fun h => by omega), if_neg (fun h => hx2 h.1)]
        · rw [if_neg (fun h => hc h.2), if_neg (fun h => hc h.2)]
    · rw [if_neg a1, if_neg (fun h => a1 h.2.2.1), if_neg (fun h => a1 h.2.2.1)]

theorem numF_limit {limit : Int} {l : List Nat} {v c : Nat} (h : numF limit l = (v, c, 0)) : (v : Int) ≤ limit := by
  unfold numF at h
  split at h
  · rename_i hc
    simp at h
    omega
  · rename_i hc
    exfalso
    simp at h
    split at h
    · simp at h
    · rename_i h1
      exact h1 h.2.2
theorem textE_err {e limit : Int} {l : List Nat} (he : e ≠ 0) : textE e limit l = ([], 0, e) := by
  have a1 : numE e limit l = (0, 0, e) := by unfold numE; rw [if_neg he]
  unfold textE
  rw [a1]
  simp [he]
theorem textE_back {limit : Int} {l t : List Nat} {c : Nat} (hb : ∀ b ∈ l, b < 256) (h : textE 0 limit l = (t, c, 0)) : l.take c = encN t.length ++ t ∧ c ≤ l.length ∧ (t.length : Int) ≤ limit ∧ ∀ b ∈ t, b < 256 := by
  obtain ⟨⟨m, c1, e1⟩, hq⟩ : ∃ x, numE 0 limit l = x := ⟨_, rfl⟩
  unfold textE at h
  rw [hq] at h
  simp only at h
  split at h
  · rename_i he
    subst he
    have hq2 : numF limit l = (m, c1, 0) := by unfold numE at hq; rwa [if_pos rfl] at hq
    obtain ⟨b1, b2, _⟩ := numF_back hb hq2
    have b3 := numF_limit hq2
    split at h
    · rename_i hm
      simp at h
      obtain ⟨rfl, rfl⟩ := h
      have hl : ((l.drop c1).take m).length = m := by rw [List.length_take]; omega
      refine ⟨?_, by rw [List.length_drop] at hm; omega, by rw [hl]; exact b3, fun b hb2 => hb b (List.mem_of_mem_drop (List.mem_of_mem_take hb2))⟩
      rw [List.take_add, b1, hl]
    · simp at h
  · rename_i he
    simp at h
    exact absurd h.2.2 he

/-- The reference's Parse. -/
theorem refparse_ok (s : ByteArray) : ∃ K, ∀ k, K ≤ k → carabinerref20_Parse.f k s = some (match parseF (sB s) with
    | some (n, t) => ((n : Int), bS t, true)
    | none => (0, ⟨#[]⟩, false)) := by
  have hb := sB_lt s
  obtain ⟨⟨n, c1, e1⟩, hq1⟩ : ∃ x, numE 0 63 (sB s) = x := ⟨_, rfl⟩
  obtain ⟨⟨t, c2, e2⟩, hq2⟩ : ∃ x, textE e1 900 ((sB s).drop c1) = x := ⟨_, rfl⟩
  have hp : parseF (sB s) = if e2 = 0 ∧ c1 + c2 = (sB s).length then some (n, t) else none := by unfold parseF; rw [hq1]; simp only; rw [hq2]
  have hq1' : numF 63 (sB s) = (n, c1, e1) := by unfold numE at hq1; rwa [if_pos rfl] at hq1
  obtain ⟨K1, h1⟩ := readnum_ok (sB s) hb 63
  rw [bS_sB, hq1'] at h1
  have h2 : ∃ K B2, ∀ k, K ≤ k → carabinerref02_ReadText.f k (bS ((sB s).drop c1)) e1 900 = some (B2, e2, bS t) := by
    by_cases he : e1 = 0
    · subst he
      obtain ⟨K, hK⟩ := readtext_ok ((sB s).drop c1) (fun b h => hb b (List.mem_of_mem_drop h)) 900
      rw [hq2] at hK
      exact ⟨K, _, hK⟩
    · rw [textE_err he] at hq2
      cases hq2
      refine ⟨0, bS ((sB s).drop c1), fun k _ => ?_⟩
      have b1 : carabinerref02_ReadNum.f k (bS ((sB s).drop c1)) e1 900 = some (bS ((sB s).drop c1), e1, 0) := by unfold carabinerref02_ReadNum.f; rw [if_neg he]
      unfold carabinerref02_ReadText.f
      rw [b1, Option.bind_some]
      simp [he, bS]
  obtain ⟨K2, B2, h2⟩ := h2
  obtain ⟨K3, h3⟩ := refparse_l0 s _ B2 (bS t) n e1 e2 (K1 + K2) (fun k hk => h1 k (by omega)) (fun k hk => h2 k (by omega)) 64 0 rfl
  refine ⟨K3, fun k hk => ?_⟩
  have h4 := h3 k hk
  unfold carabinerref20_Parse.f
  rw [show ((0 : Nat) : Int) = 0 from rfl] at h4
  rw [h4, hp]
  by_cases hc : e2 = 0 ∧ c1 + c2 = (sB s).length
  · rw [if_pos hc]
    obtain ⟨rfl, hlen⟩ := hc
    have he1 : e1 = 0 := by
      rcases Int.decEq e1 0 with h | h
      · rw [textE_err h] at hq2
        cases hq2
        exact absurd rfl h
      · exact h
    subst he1
    obtain ⟨b1, b2, b3⟩ := numF_back hb hq1'
    have b4 := numF_limit hq1'
    obtain ⟨d1, d2, d3, d4⟩ := textE_back (fun b h => hb b (List.mem_of_mem_drop h)) hq2
    have hsz : (bS t).size = t.length := bS_size t
    have hnote : noteF (n : Int) (bS t) = some (sB s) := by
      unfold noteF
      rw [if_pos ⟨by omega, by omega, by omega⟩, Int.toNat_natCast, hsz, sB_bS d4, ← d1, ← b1, ← List.take_add, hlen, List.take_length]
    have hr : noteR (n : Int) (bS t) = (bS (sB s), true) := by unfold noteR; rw [hnote]
    rw [if_pos ⟨by omega, by omega, rfl, by rw [hr], by rw [hr, bS_sB]⟩]
  · rw [if_neg hc]
    rw [if_neg]
    rintro ⟨_, a1, a2, a3, a4⟩
    apply hc
    unfold noteR at a3 a4
    cases hno : noteF (n : Int) (bS t) with
    | none => rw [hno] at a3; cases a3
    | some l =>
      rw [hno] at a4
      have hl : bS l = s := Go.WideShapes.bytes_inj (by simpa [ByteArray.toList_eq] using a4)
      have h5 := (parse_note hno).1
      have h6 : sB s = l := by rw [← hl, sB_bS (noteF_lt hno)]
      rw [← h6, hp] at h5
      split at h5
      · assumption
      · cases h5
end Go.Proofs.Ytoknpcohhnlncaa
