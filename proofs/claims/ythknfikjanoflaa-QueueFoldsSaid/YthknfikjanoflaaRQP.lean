/- The reference's Parse of queue answers as the program's. -/
import Derived.Test.YthknfikjanoflaaRQ
set_option linter.unusedVariables false
set_option linter.unusedSimpArgs false
namespace Go.Proofs.Ythknfikjanoflaa
open Go.RowKit

theorem numF_limit {limit : Int} {l : List Nat} {v c : Nat} (h : numF limit l = (v, c, 0)) : (v : Int) ≤ limit := by
  unfold numF at h
  split at h
  · rename_i hc
    simp at h
    omega
  · rename_i hc
    exfalso
    simp at h
    split at h
    · simp at h
    · rename_i h1
      exact h1 h.2.2
theorem textE_back {limit : Int} {l t : List Nat} {c : Nat} (hb : ∀ b ∈ l, b < 256) (h : textE 0 limit l = (t, c, 0)) : l.take c = encN t.length ++ t ∧ c ≤ l.length ∧ (t.length : Int) ≤ limit ∧ ∀ b ∈ t, b < 256 := by
  obtain ⟨⟨m, c1, e1⟩, hq⟩ : ∃ x, numE 0 limit l = x := ⟨_, rfl⟩
  unfold textE at h
  rw [hq] at h
  simp only at h
  split at h
  · rename_i he
    subst he
    have hq2 : numF limit l = (m, c1, 0) := by unfold numE at hq; rwa [if_pos rfl] at hq
    obtain ⟨b1, b2, _⟩ := numF_back hb hq2
    have b3 := numF_limit hq2
    split at h
    · rename_i hm
      simp at h
      obtain ⟨rfl, rfl⟩ := h
      have hl : ((l.drop c1).take m).length = m := by rw [List.length_take]; omega
      refine ⟨?_, by rw [List.length_drop] at hm; omega, by rw [hl]; exact b3, fun b hb2 => hb b (List.mem_of_mem_drop (List.mem_of_mem_take hb2))⟩
      rw [List.take_add, b1, hl]
    · simp at h
  · rename_i he
    simp at h
    exact absurd h.2.2 he
/-- What is read is never above the limit. -/
theorem numE_limit {e limit : Int} (h0 : 0 ≤ limit) {l : List Nat} {v c : Nat} {e2 : Int} (h : numE e limit l = (v, c, e2)) : (v : Int) ≤ limit := by
  unfold numE at h
  split at h
  · by_cases he : e2 = 0
    · subst he
      exact numF_limit h
    · rw [numF_zero h he]
      exact h0
  · cases h
    exact h0
theorem textE_limit {e limit : Int} (h0 : 0 ≤ limit) {l t : List Nat} {c : Nat} {e2 : Int} (h : textE e limit l = (t, c, e2)) : (t.length : Int) ≤ limit := by
  obtain ⟨⟨m, c1, e1⟩, hq⟩ : ∃ x, numE e limit l = x := ⟨_, rfl⟩
  have hm := numE_limit h0 hq
  unfold textE at h
  rw [hq] at h
  simp only at h
  split at h
  · split at h
    · simp at h
      rw [← h.1, List.length_take]
      omega
    · simp at h
      rw [h.1]
      exact h0
  · simp at h
    rw [h.1]
    exact h0

theorem parse_back {l : List Nat} (hb : ∀ b ∈ l, b < 256) {ev : Ev} (h : parseQ l = some ev) : l = dataL ev ∧ ev.id ≤ 1099511627776 ∧ ev.item.size ≤ 900 := by
  obtain ⟨⟨n, c1, e1⟩, h1⟩ : ∃ x, numE 0 2 l = x := ⟨_, rfl⟩
  obtain ⟨⟨id, c2, e2⟩, h2⟩ : ∃ x, numE e1 1099511627776 (l.drop c1) = x := ⟨_, rfl⟩
  obtain ⟨⟨t, c3, e3⟩, h3⟩ : ∃ x, textE e2 900 (l.drop (c1 + c2)) = x := ⟨_, rfl⟩
  have hid := numE_limit (by decide) h2
  have ht := textE_limit (by decide) h3
  have hbd : ∀ c, ∀ b ∈ l.drop c, b < 256 := fun c b h => hb b (List.mem_of_mem_drop h)
  have key : e2 = 0 → e1 = 0 ∧ l.take c1 = encN n ∧ (l.drop c1).take c2 = encN id := by
    intro he2
    subst he2
    have he1 : e1 = 0 := by
      rcases Int.decEq e1 0 with h | h
      · unfold numE at h2
        rw [if_neg h] at h2
        cases h2
        exact absurd rfl h
      · exact h
    subst he1
    have a1 : numF 2 l = (n, c1, 0) := by unfold numE at h1; rwa [if_pos rfl] at h1
    have a2 : numF 1099511627776 (l.drop c1) = (id, c2, 0) := by unfold numE at h2; rwa [if_pos rfl] at h2
    exact ⟨rfl, (numF_back hb a1).1, (numF_back (hbd c1) a2).1⟩
  have hn2 := numE_limit (by decide) h1
  unfold parseQ at h
  rw [h1] at h
  simp only at h
  rw [h2] at h
  simp only at h
  rw [h3] at h
  simp only at h
  by_cases hn : n = 1
  · rw [if_pos hn] at h
    split at h
    · rename_i hok
      cases h
      obtain ⟨he3, hlen⟩ := hok
      subst he3
      have he2 : e2 = 0 := by
        rcases Int.decEq e2 0 with h | h
        · rw [textE_err h] at h3
          cases h3
          exact absurd rfl h
        · exact h
      obtain ⟨_, k1, k2⟩ := key he2
      subst he2
      obtain ⟨k3, _, _, k4⟩ := textE_back (hbd (c1 + c2)) h3
      refine ⟨?_, by show id ≤ _; omega, by simp only [bS_size]; omega⟩
      have hd : dataL ⟨true, id, bS t⟩ = encN 1 ++ (encN id ++ (encN t.length ++ t)) := by
        unfold dataL pushL
        simp only [if_true]
        rw [bS_size, sB_bS k4, enc1]
        rfl
      rw [hd, ← hn, ← k1, ← k2, ← k3, ← List.drop_drop, ← List.take_add, ← List.take_add, show c1 + (c2 + c3) = l.length by omega, List.take_length]
    · cases h
  · rw [if_neg hn] at h
    split at h
    · rename_i hok
      cases h
      obtain ⟨he2, hlen, hn0⟩ := hok
      obtain ⟨_, k1, k2⟩ := key he2
      refine ⟨?_, by show id ≤ _; omega, Nat.zero_le _⟩
      have hd : dataL ⟨false, id, ⟨#[]⟩⟩ = encN 2 ++ encN id := by
        unfold dataL popL
        simp only [Bool.false_eq_true, if_false]
        rw [enc2]
        rfl
      have hnn : n = 2 := by omega
      rw [hd, ← hnn, ← k1, ← k2, ← List.take_add, hlen, List.take_length]
    · cases h

theorem rdV_def (B : List Nat) (e : Int) : rdV B e = .agg #[.string (bS B), .int .i64 e] := rfl
theorem toList_ne {x y : ByteArray} (h : x ≠ y) : (x.toList == y.toList) = false := by
  have : x.toList ≠ y.toList := by
    rw [ByteArray.toList_eq, ByteArray.toList_eq]
    exact fun e => h (Go.WideShapes.bytes_inj e)
  simpa using this
/-- How the reference's Parse comes to its end. -/
structure RParse (s : ByteArray) (n id : Nat) (ev : Ev) (B : List Nat) (e : Int) : Prop where
  ok : ev.id ≤ 1099511627776 ∧ ev.item.size ≤ 900
  yes : endF B e = 0 → bS (dataL ev) = s → parseQV (sB s) = .tuple #[evV ev, .bool true]
  no : endF B e ≠ 0 ∨ bS (dataL ev) ≠ s → parseQV (sB s) = .tuple #[.agg #[.bool false, .int .i64 0, .string ⟨#[]⟩], .bool false]
theorem rparse_facts (s : ByteArray) {n c1 : Nat} {e1 : Int} {id c2 : Nat} {e2 : Int} {t : List Nat} {c3 : Nat} {e3 : Int} (h1 : numE 0 2 (sB s) = (n, c1, e1)) (h2 : numE e1 1099511627776 ((sB s).drop c1) = (id, c2, e2)) (h3 : textE e2 900 ((sB s).drop (c1 + c2)) = (t, c3, e3)) :
    (n = 1 → RParse s n id ⟨true, id, bS t⟩ ((sB s).drop (c1 + c2 + c3)) e3) ∧ (n ≠ 1 → RParse s n id ⟨false, id, ⟨#[]⟩⟩ ((sB s).drop (c1 + c2)) e2) := by
  have hb := sB_lt s
  have hid := numE_limit (by decide) h2
  have ht := textE_limit (by decide) h3
  have l1 := numE_le 0 2 (sB s)
  have l2 := numE_le e1 1099511627776 ((sB s).drop c1)
  have l3 := textE_le e2 900 ((sB s).drop (c1 + c2))
  rw [h1] at l1
  rw [h2, List.length_drop] at l2
  rw [h3, List.length_drop] at l3
  simp only at l1 l2 l3
  have hp : parseQ (sB s) = if n = 1 then (if e3 = 0 ∧ c1 + c2 + c3 = (sB s).length then some ⟨true, id, bS t⟩ else none) else if e2 = 0 ∧ c1 + c2 = (sB s).length ∧ n ≠ 0 then some ⟨false, id, ⟨#[]⟩⟩ else none := by
    unfold parseQ
    rw [h1]
    simp only
    rw [h2]
    simp only
    rw [h3]
  have hend : ∀ c (e : Int), c ≤ (sB s).length → (endF ((sB s).drop c) e = 0 ↔ e = 0 ∧ c = (sB s).length) := by
    intro c e hc
    unfold endF
    by_cases he : e = 0
    · rw [if_pos he]
      by_cases hd : (sB s).drop c = []
      · rw [if_pos hd]
        have := congrArg List.length hd
        simp at this
        simp [he]
        omega
      · rw [if_neg hd]
        have : c ≠ (sB s).length := by
          rintro rfl
          exact hd (List.drop_length)
        simp [this]
    · rw [if_neg he]
      simp [he]
  have back : ∀ ev, parseQ (sB s) = some ev → bS (dataL ev) = s := by
    intro ev h
    rw [← (parse_back hb h).1, bS_sB]
  constructor
  · intro hn
    rw [if_pos hn] at hp
    refine ⟨⟨by show id ≤ _; omega, by simp only [bS_size]; omega⟩, ?_, ?_⟩
    · intro he _
      rw [hend _ _ (by omega)] at he
      unfold parseQV
      rw [hp, if_pos he]
    · intro h
      unfold parseQV
      rw [hp]
      by_cases hok : e3 = 0 ∧ c1 + c2 + c3 = (sB s).length
      · exfalso
        rw [if_pos hok] at hp
        rcases h with h | h
        · exact h ((hend _ _ (by omega)).2 hok)
        · exact h (back _ hp)
      · rw [if_neg hok]
  · intro hn
    rw [if_neg hn] at hp
    refine ⟨⟨by show id ≤ _; omega, Nat.zero_le _⟩, ?_, ?_⟩
    · intro he hs
      rw [hend _ _ (by omega)] at he
      have h5 : sB s = popL id := by rw [← hs]; exact sB_bS (popL_lt id)
      have h6 : parseQ (sB s) = some ⟨false, id, ⟨#[]⟩⟩ := by rw [h5]; exact parse_pop (by omega)
      unfold parseQV
      rw [h6]
    · intro h
      unfold parseQV
      rw [hp]
      by_cases hok : e2 = 0 ∧ c1 + c2 = (sB s).length ∧ n ≠ 0
      · exfalso
        rw [if_pos hok] at hp
        rcases h with h | h
        · exact h ((hend _ _ (by omega)).2 ⟨hok.1, hok.2.1⟩)
        · exact h (back _ hp)
      · rw [if_neg hok]

set_option maxRecDepth 100000 in
set_option maxHeartbeats 8000000 in
theorem rparse_any (s : ByteArray) (w : World) (hs : s.size ≤ 140737488351232) : Calls Try.prog 14 #[.string s] w fun e w' => e = .returned (parseQV (sB s)) ∧ Below w.heap.size w w' := by
  obtain ⟨⟨n, c1, e1⟩, h1⟩ : ∃ x, numE 0 2 (sB s) = x := ⟨_, rfl⟩
  obtain ⟨⟨id, c2, e2⟩, h2⟩ : ∃ x, numE e1 1099511627776 ((sB s).drop c1) = x := ⟨_, rfl⟩
  obtain ⟨⟨t, c3, e3⟩, h3⟩ : ∃ x, textE e2 900 ((sB s).drop (c1 + c2)) = x := ⟨_, rfl⟩
  obtain ⟨F1, F2⟩ := rparse_facts s h1 h2 h3
  have hb : ∀ c, ∀ b ∈ (sB s).drop c, b < 256 := fun c b h => sB_lt s b (List.mem_of_mem_drop h)
  have HN1 := Lib.hid (fun w' => rreadnum_any (sB s) (sB_lt s) 0 2 w' h1)
  have HN2 := Lib.hid (fun w' => rreadnum_any _ (hb c1) e1 1099511627776 w' h2)
  have HT := Lib.hid (fun w' => rreadtext_any _ (hb (c1 + c2)) e2 900 w' h3)
  rw [List.drop_drop] at HN2 HT
  have HE3 := Lib.hid (fun w' => rend_any ((sB s).drop (c1 + c2 + c3)) e3 w')
  have HE2 := Lib.hid (fun w' => rend_any ((sB s).drop (c1 + c2)) e2 w')
  simp only [rdV_def, bS_sB] at HN1 HN2 HT HE3 HE2
  obtain ⟨x1, hx1⟩ : ∃ x, x = bS ((sB s).drop c1) := ⟨_, rfl⟩
  obtain ⟨x2, hx2⟩ : ∃ x, x = bS ((sB s).drop (c1 + c2)) := ⟨_, rfl⟩
  obtain ⟨x3, hx3⟩ : ∃ x, x = bS ((sB s).drop (c1 + c2 + c3)) := ⟨_, rfl⟩
  rw [← hx1] at HN1 HN2
  rw [← hx2] at HN2 HT HE2
  rw [← hx3] at HT HE3
  obtain ⟨tt, htt⟩ : ∃ x, x = bS t := ⟨_, rfl⟩
  rw [← htt] at HT F1
  obtain ⟨E3, hE3⟩ : ∃ x, x = endF ((sB s).drop (c1 + c2 + c3)) e3 := ⟨_, rfl⟩
  obtain ⟨E2, hE2⟩ : ∃ x, x = endF ((sB s).drop (c1 + c2)) e2 := ⟨_, rfl⟩
  rw [← hE3] at HE3
  rw [← hE2] at HE2
  have HEE := Lib.hid (And.intro hE3 hE2)
  have HF1 := Lib.hid F1
  have HF2 := Lib.hid F2
  clear h1 h2 h3 F1 F2 hb hx1 hx2 hx3 htt hE3 hE2
  have HZ := Lib.hid (Blk.new w #[.bool false, .int .i64 0, .string ⟨#[]⟩] 27)
  have HC0 := Lib.hid (below1 w (.cells #[.bool false, .int .i64 0, .string ⟨#[]⟩] 27))
  go_enter Try.func14, Try.ntmps14
  go_wp2_with fail
  refine (HN1.out _).mono ?_
  rintro e w1 ⟨rfl, hb1⟩
  have Z1 := Lib.hid (HZ.out.below hb1)
  have C1 := Lib.hid (HC0.out.trans (hb1.mono HC0.out.size))
  clear HZ HC0 HN1 hb1
  have l1 := Z1.out.lt
  have R1 := Lib.hid (Blk.new w1 #[.string x1, .int .i64 e1] 62)
  go_wp2_with fail
  refine (HN2.out _).mono ?_
  rintro e w2 ⟨rfl, hb2⟩
  have l2 : w1.heap.size < w2.heap.size := Nat.lt_of_lt_of_le (by simp) hb2.size
  have R2 := Lib.hid (R1.out.below hb2)
  have Z2 := Lib.hid ((Z1.out.alloc (.cells #[.string x1, .int .i64 e1] 62)).below hb2)
  have C2 := Lib.hid (C1.out.trans (((below1 w1 (.cells #[.string x1, .int .i64 e1] 62)).trans (hb2.mono (by simp))).mono C1.out.size))
  have hC1s := C1.out.size
  have C2s := C2.out.size
  clear R1 Z1 C1 HN2 hb2
  obtain ⟨q1, q2⟩ := R2.out.cells
  by_cases hn : n = 1
  · have t0 : ((n : Int) == 1) = true := by simp [hn]
    have t1 : (n == 1) = true := by simp [hn]
    have HR := Lib.hid (HF1.out hn)
    have R3 := Lib.hid ((show Blk ((w2.setCell ⟨w1.heap.size, 0, none⟩ (.string x2)).setCell ⟨w1.heap.size, 1, none⟩ (.int .i64 e2)) w1.heap.size #[.string x2, .int .i64 e2] 62 from (R2.out.set 0 (.string x2)).set 1 (.int .i64 e2)).alloc (.cells #[.bool true, .int .i64 (id : Nat), .string ⟨#[]⟩] 27))
    have Z3 := Lib.hid ((((Z2.out.far (p := ⟨w1.heap.size, 0, none⟩) (by show w.heap.size ≠ w1.heap.size; omega) (.string x2)).far (p := ⟨w1.heap.size, 1, none⟩) (by show w.heap.size ≠ w1.heap.size; omega) (.int .i64 e2))).alloc (.cells #[.bool true, .int .i64 (id : Nat), .string ⟨#[]⟩] 27))
    have V3 := Lib.hid (Blk.new ((w2.setCell ⟨w1.heap.size, 0, none⟩ (.string x2)).setCell ⟨w1.heap.size, 1, none⟩ (.int .i64 e2)) #[.bool true, .int .i64 (id : Nat), .string ⟨#[]⟩] 27)
    rw [show ((w2.setCell ⟨w1.heap.size, 0, none⟩ (.string x2)).setCell ⟨w1.heap.size, 1, none⟩ (.int .i64 e2)).heap.size = w2.heap.size by simp] at V3
    have C3 := Lib.hid (((((Ch.of_below (fun _ => False) C2.out).set (p := ⟨w1.heap.size, 0, none⟩) (.inl hC1s) (.string x2)).set (p := ⟨w1.heap.size, 1, none⟩) (.inl hC1s) (.int .i64 e2))).alloc (.cells #[.bool true, .int .i64 (id : Nat), .string ⟨#[]⟩] 27))
    clear HF1 HF2 Z2 C2 hn
    go_wp2_with fail
    refine (HT.out _).mono ?_
    rintro e w3 ⟨rfl, hb3⟩
    have R4 := Lib.hid (R3.out.below hb3)
    have Z4 := Lib.hid (Z3.out.below hb3)
    have V4 := Lib.hid (V3.out.below hb3)
    have C4 := Lib.hid (C3.out.call hb3)
    have hw3 : w2.heap.size < w3.heap.size := Nat.lt_of_lt_of_le (by simp) hb3.size
    have hw13 := R4.out.lt
    have hw12 : ¬ (w2.heap.size = w1.heap.size) := by omega
    have hw12' : ¬ (w1.heap.size = w2.heap.size) := by omega
    obtain ⟨q3, q4⟩ := R4.out.cells
    obtain ⟨q5, q6⟩ := V4.out.cells
    have HD := Lib.hid (fun w' => rdata_ok ⟨true, id, tt⟩ w' HR.out.ok.1 HR.out.ok.2)
    simp only at HD
    clear R3 Z3 V3 C3 hb3 HT
    go_wp2_with fail
    have hz3 := Z4.out.lt
    have R5 := Lib.hid (((show Blk _ w1.heap.size #[.string x3, .int .i64 e3] 62 from (R4.out.set 0 (.string x3)).set 1 (.int .i64 e3)).far (p := ⟨w2.heap.size, 2, none⟩) (by show w1.heap.size ≠ w2.heap.size; omega) (.string tt)).alloc (.cells #[.string x3, .int .i64 e3] 62))
    have V5 := Lib.hid ((show Blk (((w3.setCell ⟨w1.heap.size, 0, none⟩ (.string x3)).setCell ⟨w1.heap.size, 1, none⟩ (.int .i64 e3)).setCell ⟨w2.heap.size, 2, none⟩ (.string tt)) w2.heap.size #[.bool true, .int .i64 (id : Nat), .string tt] 27 from ((V4.out.far (p := ⟨w1.heap.size, 0, none⟩) (by show w2.heap.size ≠ w1.heap.size; omega) (.string x3)).far (p := ⟨w1.heap.size, 1, none⟩) (by show w2.heap.size ≠ w1.heap.size; omega) (.int .i64 e3)).set 2 (.string tt)).alloc (.cells #[.string x3, .int .i64 e3] 62))
    have hzw2 : w.heap.size ≠ w2.heap.size := by have := C2s; omega
    have Z5 := Lib.hid ((((Z4.out.far (p := ⟨w1.heap.size, 0, none⟩) (by show w.heap.size ≠ w1.heap.size; omega) (.string x3)).far (p := ⟨w1.heap.size, 1, none⟩) (by show w.heap.size ≠ w1.heap.size; omega) (.int .i64 e3)).far (p := ⟨w2.heap.size, 2, none⟩) hzw2 (.string tt)).alloc (.cells #[.string x3, .int .i64 e3] 62))
    have C5 := Lib.hid ((((C4.out.set (p := ⟨w1.heap.size, 0, none⟩) (.inl hC1s) (.string x3)).set (p := ⟨w1.heap.size, 1, none⟩) (.inl hC1s) (.int .i64 e3)).set (p := ⟨w2.heap.size, 2, none⟩) (.inl (by show w.heap.size ≤ w2.heap.size; omega)) (.string tt)).alloc (.cells #[.string x3, .int .i64 e3] 62))
    clear R4 Z4 V4 C4
    refine (HD.out _).mono ?_
    rintro e w4 ⟨rfl, hb4⟩
    have R6 := Lib.hid (R5.out.below hb4)
    have Z6 := Lib.hid (Z5.out.below hb4)
    have V6 := Lib.hid (V5.out.below hb4)
    have C6 := Lib.hid (C5.out.call hb4)
    obtain ⟨d, hd⟩ : ∃ d, d = bS (dataL ⟨true, id, tt⟩) := ⟨_, rfl⟩
    rw [← hd]
    have HDD := Lib.hid hd
    obtain ⟨q7, q8⟩ := R6.out.cells
    clear R5 Z5 V5 C5 hb4 HD hd q1 q2 q3 q4 q5 q6
    go_wp2_with fail
    by_cases hE : E3 = 0
    · by_cases hds : d = s
      · have hv : parseQV (sB s) = .tuple #[evV ⟨true, id, tt⟩, .bool true] := HR.out.yes (by rw [← HEE.out.1]; exact hE) (by rw [← HDD.out]; exact hds)
        have HV := Lib.hid hv
        subst hE
        have hdl : (d.toList == s.toList) = true := by rw [hds]; simp
        clear hv hds
        refine (HE3.out _).mono ?_
        rintro e w8 ⟨rfl, hb8⟩
        have Z8 := Lib.hid (Z6.out.below hb8)
        have V8 := Lib.hid (V6.out.below hb8)
        have C8 := Lib.hid (C6.out.call hb8)
        have hz8 := Z8.out.lt
        obtain ⟨y1, y2⟩ := Z8.out.cells
        obtain ⟨y3, y4⟩ := V8.out.cells
        clear R6 Z6 V6 C6 hb8 HE3
        go_wp2_with fail
        have C9 := C8.out
        obtain ⟨z1, z2⟩ := (show Blk _ w.heap.size #[.bool true, (.int .i64 (id : Nat)), (.string tt)] 27 from ((Z8.out.set 0 (.bool true)).set 1 (.int .i64 (id : Nat))).set 2 (.string tt)).cells
        exact bodyPost_ret (v := .tuple #[evV ⟨true, id, tt⟩, .bool true]) (by simp [results, Try.results14, go_sem, evV, z1]) rfl ⟨by rw [HV.out], Ch.below (by (repeat (first | with_reducible assumption | with_reducible exact Ch.refl _ _ | with_reducible refine Ch.drew ?_ | with_reducible refine Ch.alloc ?_ _ | (with_reducible refine Ch.set' ?_ ?_; focus (first | (right; rfl; done) | (left; simp; done) | (left; simp; omega) | (left; omega) | (right; simp; done) | (right; simp; omega))))))⟩
      · have hv : parseQV (sB s) = .tuple #[.agg #[.bool false, .int .i64 0, .string ⟨#[]⟩], .bool false] := HR.out.no (.inr (by rw [← HDD.out]; exact hds))
        have HV := Lib.hid hv
        subst hE
        have hdl := toList_ne hds
        clear hv hds
        refine (HE3.out _).mono ?_
        rintro e w8 ⟨rfl, hb8⟩
        have Z8 := Lib.hid (Z6.out.below hb8)
        have V8 := Lib.hid (V6.out.below hb8)
        have C8 := Lib.hid (C6.out.call hb8)
        have hz8 := Z8.out.lt
        obtain ⟨y1, y2⟩ := Z8.out.cells
        obtain ⟨y3, y4⟩ := V8.out.cells
        clear R6 Z6 V6 C6 hb8 HE3
        go_wp2_with fail
        have C9 := C8.out
        obtain ⟨z1, z2⟩ := (show Blk _ w.heap.size #[.bool false, (.int .i64 0), (.string ⟨#[]⟩)] 27 from ((Z8.out.set 0 (.bool false)).set 1 (.int .i64 0)).set 2 (.string ⟨#[]⟩)).cells
        exact bodyPost_ret (v := .tuple #[.agg #[.bool false, .int .i64 0, .string ⟨#[]⟩], .bool false]) (by simp [results, Try.results14, go_sem, evV, z1]) rfl ⟨by rw [HV.out], Ch.below (by (repeat (first | with_reducible assumption | with_reducible exact Ch.refl _ _ | with_reducible refine Ch.drew ?_ | with_reducible refine Ch.alloc ?_ _ | (with_reducible refine Ch.set' ?_ ?_; focus (first | (right; rfl; done) | (left; simp; done) | (left; simp; omega) | (left; omega) | (right; simp; done) | (right; simp; omega))))))⟩
    · have hv : parseQV (sB s) = .tuple #[.agg #[.bool false, .int .i64 0, .string ⟨#[]⟩], .bool false] := HR.out.no (.inl (by rw [← HEE.out.1]; exact hE))
      have HV := Lib.hid hv
      have hE0 : (E3 == 0) = false := by simpa using hE
      have hE1 : (E3 != 0) = true := by simpa using hE
      clear hv hE
      refine (HE3.out _).mono ?_
      rintro e w8 ⟨rfl, hb8⟩
      have Z8 := Lib.hid (Z6.out.below hb8)
      have V8 := Lib.hid (V6.out.below hb8)
      have C8 := Lib.hid (C6.out.call hb8)
      have hz8 := Z8.out.lt
      obtain ⟨y1, y2⟩ := Z8.out.cells
      obtain ⟨y3, y4⟩ := V8.out.cells
      clear R6 Z6 V6 C6 hb8 HE3
      go_wp2_with fail
      have C9 := C8.out
      obtain ⟨z1, z2⟩ := (show Blk _ w.heap.size #[.bool false, (.int .i64 0), (.string ⟨#[]⟩)] 27 from ((Z8.out.set 0 (.bool false)).set 1 (.int .i64 0)).set 2 (.string ⟨#[]⟩)).cells
      exact bodyPost_ret (v := .tuple #[.agg #[.bool false, .int .i64 0, .string ⟨#[]⟩], .bool false]) (by simp [results, Try.results14, go_sem, evV, z1]) rfl ⟨by rw [HV.out], Ch.below (by (repeat (first | with_reducible assumption | with_reducible exact Ch.refl _ _ | with_reducible refine Ch.drew ?_ | with_reducible refine Ch.alloc ?_ _ | (with_reducible refine Ch.set' ?_ ?_; focus (first | (right; rfl; done) | (left; simp; done) | (left; simp; omega) | (left; omega) | (right; simp; done) | (right; simp; omega))))))⟩
  · have t0 : ((n : Int) == 1) = false := by simp; omega
    have t1 : (n == 1) = false := by simpa using hn
    have HR := Lib.hid (HF2.out hn)
    have R3 := Lib.hid ((show Blk ((w2.setCell ⟨w1.heap.size, 0, none⟩ (.string x2)).setCell ⟨w1.heap.size, 1, none⟩ (.int .i64 e2)) w1.heap.size #[.string x2, .int .i64 e2] 62 from (R2.out.set 0 (.string x2)).set 1 (.int .i64 e2)).alloc (.cells #[.bool false, .int .i64 (id : Nat), .string ⟨#[]⟩] 27))
    have Z3 := Lib.hid ((((Z2.out.far (p := ⟨w1.heap.size, 0, none⟩) (by show w.heap.size ≠ w1.heap.size; omega) (.string x2)).far (p := ⟨w1.heap.size, 1, none⟩) (by show w.heap.size ≠ w1.heap.size; omega) (.int .i64 e2))).alloc (.cells #[.bool false, .int .i64 (id : Nat), .string ⟨#[]⟩] 27))
    have V3 := Lib.hid (Blk.new ((w2.setCell ⟨w1.heap.size, 0, none⟩ (.string x2)).setCell ⟨w1.heap.size, 1, none⟩ (.int .i64 e2)) #[.bool false, .int .i64 (id : Nat), .string ⟨#[]⟩] 27)
    rw [show ((w2.setCell ⟨w1.heap.size, 0, none⟩ (.string x2)).setCell ⟨w1.heap.size, 1, none⟩ (.int .i64 e2)).heap.size = w2.heap.size by simp] at V3
    have C3 := Lib.hid (((((Ch.of_below (fun _ => False) C2.out).set (p := ⟨w1.heap.size, 0, none⟩) (.inl hC1s) (.string x2)).set (p := ⟨w1.heap.size, 1, none⟩) (.inl hC1s) (.int .i64 e2))).alloc (.cells #[.bool false, .int .i64 (id : Nat), .string ⟨#[]⟩] 27))
    have HD := Lib.hid (fun w' => rdata_ok ⟨false, id, ⟨#[]⟩⟩ w' HR.out.ok.1 HR.out.ok.2)
    simp only at HD
    clear HF1 HF2 Z2 C2 hn HT HE3
    go_wp2_with fail
    refine (HD.out _).mono ?_
    rintro e w3 ⟨rfl, hb3⟩
    have R4 := Lib.hid (R3.out.below hb3)
    have Z4 := Lib.hid (Z3.out.below hb3)
    have V4 := Lib.hid (V3.out.below hb3)
    have C4 := Lib.hid (C3.out.call hb3)
    obtain ⟨d, hd⟩ : ∃ d, d = bS (dataL ⟨false, id, ⟨#[]⟩⟩) := ⟨_, rfl⟩
    rw [← hd]
    have HDD := Lib.hid hd
    obtain ⟨q3, q4⟩ := R4.out.cells
    clear R3 Z3 V3 C3 hb3 HD hd
    have R6 := R4
    have Z6 := Z4
    have V6 := V4
    have C6 := C4
    clear R4 Z4 V4 C4
    go_wp2_with fail
    by_cases hE : E2 = 0
    · by_cases hds : d = s
      · have hv : parseQV (sB s) = .tuple #[evV ⟨false, id, ⟨#[]⟩⟩, .bool true] := HR.out.yes (by rw [← HEE.out.2]; exact hE) (by rw [← HDD.out]; exact hds)
        have HV := Lib.hid hv
        subst hE
        have hdl : (d.toList == s.toList) = true := by rw [hds]; simp
        clear hv hds
        refine (HE2.out _).mono ?_
        rintro e w8 ⟨rfl, hb8⟩
        have Z8 := Lib.hid (Z6.out.below hb8)
        have V8 := Lib.hid (V6.out.below hb8)
        have C8 := Lib.hid (C6.out.call hb8)
        have hz8 := Z8.out.lt
        obtain ⟨y1, y2⟩ := Z8.out.cells
        obtain ⟨y3, y4⟩ := V8.out.cells
        clear R6 Z6 V6 C6 hb8 HE2
        go_wp2_with fail
        have C9 := C8.out
        obtain ⟨z1, z2⟩ := (show Blk _ w.heap.size #[.bool false, (.int .i64 (id : Nat)), (.string ⟨#[]⟩)] 27 from ((Z8.out.set 0 (.bool false)).set 1 (.int .i64 (id : Nat))).set 2 (.string ⟨#[]⟩)).cells
        exact bodyPost_ret (v := .tuple #[evV ⟨false, id, ⟨#[]⟩⟩, .bool true]) (by simp [results, Try.results14, go_sem, evV, z1]) rfl ⟨by rw [HV.out], Ch.below (by (repeat (first | with_reducible assumption | with_reducible exact Ch.refl _ _ | with_reducible refine Ch.drew ?_ | with_reducible refine Ch.alloc ?_ _ | (with_reducible refine Ch.set' ?_ ?_; focus (first | (right; rfl; done) | (left; simp; done) | (left; simp; omega) | (left; omega) | (right; simp; done) | (right; simp; omega))))))⟩
      · have hv : parseQV (sB s) = .tuple #[.agg #[.bool false, .int .i64 0, .string ⟨#[]⟩], .bool false] := HR.out.no (.inr (by rw [← HDD.out]; exact hds))
        have HV := Lib.hid hv
        subst hE
        have hdl := toList_ne hds
        clear hv hds
        refine (HE2.out _).mono ?_
        rintro e w8 ⟨rfl, hb8⟩
        have Z8 := Lib.hid (Z6.out.below hb8)
        have V8 := Lib.hid (V6.out.below hb8)
        have C8 := Lib.hid (C6.out.call hb8)
        have hz8 := Z8.out.lt
        obtain ⟨y1, y2⟩ := Z8.out.cells
        obtain ⟨y3, y4⟩ := V8.out.cells
        clear R6 Z6 V6 C6 hb8 HE2
        go_wp2_with fail
        have C9 := C8.out
        obtain ⟨z1, z2⟩ := (show Blk _ w.heap.size #[.bool false, (.int .i64 0), (.string ⟨#[]⟩)] 27 from ((Z8.out.set 0 (.bool false)).set 1 (.int .i64 0)).set 2 (.string ⟨#[]⟩)).cells
        exact bodyPost_ret (v := .tuple #[.agg #[.bool false, .int .i64 0, .string ⟨#[]⟩], .bool false]) (by simp [results, Try.results14, go_sem, evV, z1]) rfl ⟨by rw [HV.out], Ch.below (by (repeat (first | with_reducible assumption | with_reducible exact Ch.refl _ _ | with_reducible refine Ch.drew ?_ | with_reducible refine Ch.alloc ?_ _ | (with_reducible refine Ch.set' ?_ ?_; focus (first | (right; rfl; done) | (left; simp; done) | (left; simp; omega) | (left; omega) | (right; simp; done) | (right; simp; omega))))))⟩
    · have hv : parseQV (sB s) = .tuple #[.agg #[.bool false, .int .i64 0, .string ⟨#[]⟩], .bool false] := HR.out.no (.inl (by rw [← HEE.out.2]; exact hE))
      have HV := Lib.hid hv
      have hE0 : (E2 == 0) = false := by simpa using hE
      have hE1 : (E2 != 0) = true := by simpa using hE
      clear hv hE
      refine (HE2.out _).mono ?_
      rintro e w8 ⟨rfl, hb8⟩
      have Z8 := Lib.hid (Z6.out.below hb8)
      have V8 := Lib.hid (V6.out.below hb8)
      have C8 := Lib.hid (C6.out.call hb8)
      have hz8 := Z8.out.lt
      obtain ⟨y1, y2⟩ := Z8.out.cells
      obtain ⟨y3, y4⟩ := V8.out.cells
      clear R6 Z6 V6 C6 hb8 HE2
      go_wp2_with fail
      have C9 := C8.out
      obtain ⟨z1, z2⟩ := (show Blk _ w.heap.size #[.bool false, (.int .i64 0), (.string ⟨#[]⟩)] 27 from ((Z8.out.set 0 (.bool false)).set 1 (.int .i64 0)).set 2 (.string ⟨#[]⟩)).cells
      exact bodyPost_ret (v := .tuple #[.agg #[.bool false, .int .i64 0, .string ⟨#[]⟩], .bool false]) (by simp [results, Try.results14, go_sem, evV, z1]) rfl ⟨by rw [HV.out], Ch.below (by (repeat (first | with_reducible assumption | with_reducible exact Ch.refl _ _ | with_reducible refine Ch.drew ?_ | with_reducible refine Ch.alloc ?_ _ | (with_reducible refine Ch.set' ?_ ?_; focus (first | (right; rfl; done) | (left; simp; done) | (left; simp; omega) | (left; omega) | (right; simp; done) | (right; simp; omega))))))⟩
end Go.Proofs.Ythknfikjanoflaa
