/- The reference's Decode of tokens. -/
import Derived.Test.YtjilfmphdncapaaTokR
set_option linter.unusedVariables false
set_option linter.unusedSimpArgs false
namespace Go.Proofs.Ytjilfmphdncapaa
open Go.RowKit PSessionTokens Go.Proofs.YtjilfmphdncapaaW.PrintWords

/-- 'string' of the first bytes of a row. -/
theorem row_string {w : World} {a : Option Addr} {bs : List Nat} (h : RowAt w a 1 b1 bs) (hb : ∀ b ∈ bs, b < 256) (n cap : Nat) (hn : n ≤ bs.length) (h0 : 0 < n) : (convert 57 9 (.slice a n cap)).run Try.prog w = .ok (.string (bS (bs.take n))) w := by
  obtain ⟨x0, hx0⟩ : ∃ x0, bs[0]? = some x0 := ⟨_, List.getElem?_eq_getElem (by omega)⟩
  obtain ⟨b, off, rfl, _, _⟩ := h 0 x0 hx0
  have hl : ((bs.take n).map UInt8.ofNat).length = n := by simp; omega
  have := run_convert_bytes_back (P := Try.prog) w 57 9 5 ⟨b, off, none⟩ cap ((bs.take n).map UInt8.ofNat) Try.underlying57 Try.underlying5 Try.underlying9 (by
    intro j hj
    rw [hl] at hj
    have h1 : bs[j]? = some bs[j] := List.getElem?_eq_getElem (by omega)
    obtain ⟨b', off', e, _, hc⟩ := h j _ h1
    simp at e
    obtain ⟨rfl, rfl⟩ := e
    have h2 := hb _ (List.mem_of_getElem? h1)
    have h3 := hc 0 (by8 bs[j]) rfl
    have hadd : (⟨b, off, none⟩ : Addr).add j = ⟨b, off + (j * 1 + 0), none⟩ := by
      unfold Addr.add
      split
      · rename_i h0; simp [h0]
      · simp
    rw [hadd, h3]
    simp [by8, Nat.mod_eq_of_lt h2])
  rw [hl] at this
  exact this
/-- 'string' of a whole row. -/
theorem row_string_all {w : World} {a : Option Addr} {bs : List Nat} (h : RowAt w a 1 b1 bs) (hb : ∀ b ∈ bs, b < 256) (cap : Nat) : (convert 57 9 (.slice a bs.length cap)).run Try.prog w = .ok (.string (bS bs)) w := by
  by_cases h0 : 0 < bs.length
  · have := row_string h hb bs.length cap (Nat.le_refl _) h0
    rwa [List.take_length] at this
  · obtain rfl : bs = [] := List.length_eq_zero_iff.1 (by omega)
    cases a with
    | none => exact Lib.run_convert_nil_bytes (P := Try.prog) w 57 9 5 cap Try.underlying57 Try.underlying5 Try.underlying9
    | some p =>
      have := run_convert_bytes_back (P := Try.prog) w 57 9 5 p cap [] Try.underlying57 Try.underlying5 Try.underlying9 (by simp)
      simpa [bS] using this


/-- The reference's ReadNum of any reader. -/
theorem readnum_any (l : List Nat) (hb : ∀ b ∈ l, b < 256) (e limit : Int) (B : ByteArray) (hB : e = 0 → B = bS l) (v c : Nat) (e2 : Int) (hq : numE e limit l = (v, c, e2)) :
    ∃ K B2, carabinerref02_ReadNum.f K B e limit = some (B2, e2, (v : Int)) ∧ (e2 = 0 → B2 = bS (l.drop c)) := by
  by_cases he : e = 0
  · subst he
    obtain ⟨K, hK⟩ := readnum_ok l hb limit
    have h := hK K (Nat.le_refl _)
    unfold numE at hq
    rw [if_pos rfl] at hq
    rw [hq] at h
    rw [hB rfl]
    exact ⟨K, _, h, fun _ => rfl⟩
  · unfold numE at hq
    rw [if_neg he] at hq
    cases hq
    exact ⟨0, B, by unfold carabinerref02_ReadNum.f; rw [if_neg he]; rfl, fun h => absurd h he⟩

/-- What the reference's Decode asks of what it read. -/
theorem numF_limit {limit : Int} {l : List Nat} {v c : Nat} (h : numF limit l = (v, c, 0)) : (v : Int) ≤ limit := by
  unfold numF at h
  split at h
  · rename_i hc
    simp at h
    omega
  · rename_i hc
    exfalso
    simp at h
    split at h
    · simp at h
    · rename_i h1
      exact h1 h.2.2
theorem numE_back {e limit : Int} {l : List Nat} {v c : Nat} (hb : ∀ b ∈ l, b < 256) (h : numE e limit l = (v, c, 0)) : e = 0 ∧ l.take c = encN v ∧ c ≤ l.length ∧ v ≤ 4611686018427387904 ∧ (v : Int) ≤ limit := by
  unfold numE at h
  split at h
  · rename_i he
    obtain ⟨h1, h2, h3⟩ := numF_back hb h
    exact ⟨he, h1, h2, h3, numF_limit h⟩
  · rename_i he
    cases h
    exact absurd rfl he
theorem dec_two {l : List Nat} (hb : ∀ b ∈ l, b < 256) {L1 L2 : Int} {x c1 y c2 : Nat} {e1 : Int} (h1 : numE 0 L1 l = (x, c1, e1)) (h2 : numE e1 L2 (l.drop c1) = (y, c2, 0)) (hl : c1 + c2 = l.length) : l = encN x ++ encN y := by
  obtain ⟨rfl, b1, _⟩ := numE_back (fun b h => hb b (List.mem_of_mem_drop h)) h2
  obtain ⟨_, a1, _⟩ := numE_back hb h1
  rw [← a1, ← b1, ← List.take_add, hl, List.take_length]
theorem num_two {x y : Nat} (hx : x ≤ 4611686018427387904) (hy : y ≤ 4611686018427387904) {L1 L2 : Int} (h1 : (x : Int) ≤ L1) (h2 : (y : Int) ≤ L2) : numE 0 L1 (encN x ++ encN y) = (x, (encN x).length, 0) ∧ numE 0 L2 ((encN x ++ encN y).drop (encN x).length) = (y, (encN y).length, 0) := by
  refine ⟨numE_enc hx L1 h1 _, ?_⟩
  rw [List.drop_left]
  have := numE_enc hy L2 h2 []
  rwa [List.append_nil] at this
theorem decF_tok {x y : Nat} (h : rightB x y = true) : decF (encN x ++ encN y) = some (x, y) := by
  have hb := rightB_bounds h
  obtain ⟨a1, a2⟩ := num_two (x := x) (y := y) (by omega) (by omega) (L1 := 64) (L2 := 1099511627776) (by omega) (by omega)
  unfold decF
  rw [a1]
  simp only
  rw [a2]
  simp only
  rw [if_pos ⟨by trivial, by rw [List.length_append], h⟩]
theorem decF_back {l : List Nat} (hb : ∀ b ∈ l, b < 256) {x y : Nat} (h : decF l = some (x, y)) : l = encN x ++ encN y ∧ rightB x y = true := by
  obtain ⟨⟨x', c1, e1⟩, h1⟩ : ∃ q, numE 0 64 l = q := ⟨_, rfl⟩
  obtain ⟨⟨y', c2, e2⟩, h2⟩ : ∃ q, numE e1 1099511627776 (l.drop c1) = q := ⟨_, rfl⟩
  have hp : decF l = if e2 = 0 ∧ c1 + c2 = l.length ∧ rightB x' y' = true then some (x', y') else none := by unfold decF; rw [h1]; simp only; rw [h2]
  rw [hp] at h
  split at h
  · rename_i hc
    cases h
    obtain ⟨rfl, hl, hr⟩ := hc
    exact ⟨dec_two hb h1 h2 hl, hr⟩
  · cases h

/-- The reference's question is the program's. -/
theorem dec_same {l : List Nat} (hb : ∀ b ∈ l, b < 256) {x c1 y c2 : Nat} {e1 e2 : Int} (h1 : numE 0 4611686018427387904 l = (x, c1, e1)) (h2 : numE e1 4611686018427387904 (l.drop c1) = (y, c2, e2)) :
    decF l = if e2 = 0 ∧ c1 + c2 = l.length ∧ rightB x y = true ∧ tokL x y = l then some (x, y) else none := by
  by_cases hc : e2 = 0 ∧ c1 + c2 = l.length ∧ rightB x y = true ∧ tokL x y = l
  · rw [if_pos hc]
    have ht : l = encN x ++ encN y := by rw [← hc.2.2.2]; simp [tokL]
    rw [ht]
    exact decF_tok hc.2.2.1
  · rw [if_neg hc]
    cases hd : decF l with
    | none => rfl
    | some p =>
      exfalso
      obtain ⟨x', y'⟩ := p
      obtain ⟨ht, hr⟩ := decF_back hb hd
      have hbo := rightB_bounds hr
      obtain ⟨a1, a2⟩ := num_two (x := x') (y := y') (by omega) (by omega) (L1 := 4611686018427387904) (L2 := 4611686018427387904) (by omega) (by omega)
      rw [← ht] at a1 a2
      rw [a1] at h1
      cases h1
      rw [a2] at h2
      cases h2
      apply hc
      have hl : l.length = (encN x).length + (encN y).length := by
        conv => lhs; rw [ht]
        rw [List.length_append]
      exact ⟨rfl, hl.symm, hr, by rw [ht]; simp [tokL]⟩

theorem bS_inj {a b : List Nat} (ha : ∀ x ∈ a, x < 256) (hb : ∀ x ∈ b, x < 256) (h : bS a = bS b) : a = b := by
  rw [← sB_bS ha, ← sB_bS hb, h]

set_option maxRecDepth 100000 in
set_option maxHeartbeats 8000000 in
theorem refdecode_any (a : Option Addr) (cap : Nat) (bs : List Nat) (w : World) (ro : RowAt w a 1 b1 bs) (wb : ∀ b ∈ bs, b < 256) (hlen : bs.length ≤ 140737488351232) :
    Calls Try.prog 24 #[.slice a bs.length cap] w fun e w' => e = .returned (decV bs) ∧ Below w.heap.size w w' := by
  have W0 : Below w.heap.size w (w.alloc (.cells #[.int .i64 0, .int .i64 0] 23)) := below1 w _
  have HRO := Lib.hid ro
  have HB0 := Lib.hid (Blk.new w #[.int .i64 0, .int .i64 0] 23)
  have HC0 := Lib.hid ((Ch.refl (fun _ => False) w).alloc (.cells #[.int .i64 0, .int .i64 0] 23))
  have hstr := row_string_all (ro.below W0) wb cap
  obtain ⟨⟨x, c1, e1⟩, h1⟩ : ∃ q, numE 0 4611686018427387904 bs = q := ⟨_, rfl⟩
  obtain ⟨⟨y, c2, e2⟩, h2⟩ : ∃ q, numE e1 4611686018427387904 (bs.drop c1) = q := ⟨_, rfl⟩
  obtain ⟨K1, B1, r1, s1⟩ := readnum_any bs wb 0 4611686018427387904 (bS bs) (fun _ => rfl) x c1 e1 h1
  obtain ⟨K2, B2, r2, s2⟩ := readnum_any (bs.drop c1) (fun b h => wb b (List.mem_of_mem_drop h)) e1 4611686018427387904 B1 s1 y c2 e2 h2
  have hds := dec_same wb h1 h2
  have hle : c1 + c2 ≤ bs.length := by
    have a1 := numE_le 0 4611686018427387904 bs
    have a2 := numE_le e1 4611686018427387904 (bs.drop c1)
    rw [h1] at a1
    rw [h2] at a2
    simp at a1 a2
    omega
  obtain ⟨E, hE, hE0⟩ : ∃ E, carabinerref02_End.f B2 e2 = some E ∧ (E = 0 ↔ e2 = 0 ∧ c1 + c2 = bs.length) := by
    unfold carabinerref02_End.f
    by_cases he : e2 = 0
    · have hs := s2 he
      have hsz : (B2.size : Int) = (bs.length - (c1 + c2) : Nat) := by rw [hs, bS_size]; simp [Nat.sub_add_eq]
      by_cases hk : c1 + c2 = bs.length
      · exact ⟨0, by rw [if_pos he, if_neg (by omega), he], fun _ => ⟨he, hk⟩, fun _ => rfl⟩
      · exact ⟨22, by rw [if_pos he, if_pos (by omega)], fun h => by omega, fun h => absurd h.2 hk⟩
    · exact ⟨e2, by rw [if_neg he], fun h => absurd h he, fun h => absurd h.1 he⟩
  have R1 := Lib.hid (fun w3 => carabinerref02_ReadNum.calls K1 (bS bs) 0 4611686018427387904 B1 e1 x w3 r1)
  have R2 := Lib.hid (fun w3 => carabinerref02_ReadNum.calls K2 B1 e1 4611686018427387904 B2 e2 y w3 r2)
  have R3 := Lib.hid (fun w3 => carabinerref02_End.calls B2 e2 E w3 hE)
  have HE0 := Lib.hid hE0
  have HDS := Lib.hid hds
  have HWB := Lib.hid wb
  clear ro wb h1 h2 r1 r2 s1 s2 hE hE0 hds W0
  go_enter Try.func24, Try.ntmps24
  go_wp2_with fail
  refine (R1.out _).mono ?_
  rintro e w3 ⟨rfl, hb3⟩
  have HC3 := Lib.hid ((HC0.out.call hb3).alloc (.cells #[.string B1, .int .i64 e1] 80))
  have HB3 := Lib.hid ((HB0.out.below hb3).alloc (.cells #[.string B1, .int .i64 e1] 80))
  have HR3 := Lib.hid (Blk.new w3 #[.string B1, .int .i64 e1] 80)
  have hw3 : w.heap.size + 1 ≤ w3.heap.size := by simpa using hb3.size
  clear hb3 HC0 HB0 hstr
  go_wp2_with fail
  refine (R2.out _).mono ?_
  rintro e w4 ⟨rfl, hb4⟩
  have HC4 := Lib.hid (HC3.out.call hb4)
  have HB4 := Lib.hid (HB3.out.below hb4)
  have HR4 := HR3.out.below hb4
  obtain ⟨z1, z2⟩ := HR4.cells
  have HR4' := Lib.hid HR4
  have hr4 := HR4.lt
  clear hb4 HC3 HB3 HR3 HR4 R1 R2
  go_wp2_with fail
  have R9 : Blk ((w4.setCell ⟨w3.heap.size, 0, none⟩ (.string B2)).setCell ⟨w3.heap.size, 1, none⟩ (.int .i64 e2)) w3.heap.size #[.string B2, .int .i64 e2] 80 := (HR4'.out.set 0 (.string B2)).set 1 (.int .i64 e2)
  have B9 : Blk ((w4.setCell ⟨w3.heap.size, 0, none⟩ (.string B2)).setCell ⟨w3.heap.size, 1, none⟩ (.int .i64 e2)) w.heap.size #[.int .i64 0, .int .i64 0] 23 := (HB4.out.far (by simp; omega) _).far (by simp; omega) _
  have C9 : Ch (fun _ => False) w ((w4.setCell ⟨w3.heap.size, 0, none⟩ (.string B2)).setCell ⟨w3.heap.size, 1, none⟩ (.int .i64 e2)) := by
    have := HC4.out
    (repeat (first | with_reducible assumption | with_reducible exact Ch.refl _ _ | with_reducible refine Ch.drew ?_ | with_reducible refine Ch.alloc ?_ _ | (with_reducible refine Ch.set' ?_ ?_; focus (first | (right; rfl; done) | (left; simp; done) | (left; simp; omega) | (left; omega) | (right; simp; done) | (right; simp; omega)))))
  clear HC4 HB4 HR4' z1 z2 hr4
  generalize ((w4.setCell ⟨w3.heap.size, 0, none⟩ (.string B2)).setCell ⟨w3.heap.size, 1, none⟩ (.int .i64 e2)) = wq at *
  have HR9 := Lib.hid R9
  have HB9 := Lib.hid B9
  have HC9 := Lib.hid C9
  clear R9 B9 C9
  cases hrt : rightB (x : Int) (y : Int) with
  | false =>
    have hv : decV bs = .tuple #[.agg #[.int .i64 0, .int .i64 0], .bool false] := by unfold decV; rw [HDS.out, if_neg (fun h => by rw [hrt] at h; cases h.2.2.1)]
    have HV := Lib.hid hv
    have HEN := Lib.hid (refencode_bad (x : Int) (y : Int) wq hrt)
    clear hv hrt
    refine HEN.out.mono ?_
    rintro e w5 ⟨rfl, hb5⟩
    obtain ⟨z1, z2⟩ := (HR9.out.below hb5).cells
    have HB5 := Lib.hid (HB9.out.below hb5)
    have HC5 := Lib.hid (HC9.out.call hb5)
    have HE2 := Lib.hid (R3.out w5)
    clear HEN hb5 HR9 HB9 HC9 R3
    by_cases h0 : E = 0
    · have t0 : (E != 0) = false := by simp [h0]
      clear h0
      go_wp2_with fail
      refine HE2.out.mono ?_
      rintro e w6 ⟨rfl, hb6⟩
      have HB6 := HB5.out.below hb6
      have KCF := Lib.hid (HC5.out.call hb6)
      clear hb6 HB5 HC5 z1 z2
      obtain ⟨p1, p2⟩ := HB6.cells
      have hlp := HB6.lt
      have KCC := KCF.out
      clear HE2
      go_wp2_with fail
      refine bodyPost_ret (v := .tuple #[.agg #[.int .i64 0, .int .i64 0], .bool false]) (by simp [results, Try.results24, go_sem, p1]) rfl ⟨by rw [HV.out], ?_⟩
      exact Ch.below (by (repeat (first | with_reducible assumption | with_reducible exact Ch.refl _ _ | with_reducible refine Ch.drew ?_ | with_reducible refine Ch.alloc ?_ _ | (with_reducible refine Ch.set' ?_ ?_; focus (first | (right; rfl; done) | (left; simp; done) | (left; simp; omega) | (left; omega) | (right; simp; done) | (right; simp; omega))))))
    · have t0 : (E != 0) = true := by simp [h0]
      clear h0
      go_wp2_with fail
      refine HE2.out.mono ?_
      rintro e w6 ⟨rfl, hb6⟩
      have HB6 := HB5.out.below hb6
      have KCF := Lib.hid (HC5.out.call hb6)
      clear hb6 HB5 HC5 z1 z2
      obtain ⟨p1, p2⟩ := HB6.cells
      have hlp := HB6.lt
      have KCC := KCF.out
      clear HE2
      go_wp2_with fail
      refine bodyPost_ret (v := .tuple #[.agg #[.int .i64 0, .int .i64 0], .bool false]) (by simp [results, Try.results24, go_sem, p1]) rfl ⟨by rw [HV.out], ?_⟩
      exact Ch.below (by (repeat (first | with_reducible assumption | with_reducible exact Ch.refl _ _ | with_reducible refine Ch.drew ?_ | with_reducible refine Ch.alloc ?_ _ | (with_reducible refine Ch.set' ?_ ?_; focus (first | (right; rfl; done) | (left; simp; done) | (left; simp; omega) | (left; omega) | (right; simp; done) | (right; simp; omega))))))
  | true =>
    have HEN := Lib.hid (refencode_ok (x : Int) (y : Int) wq hrt)
    refine HEN.out.mono ?_
    rintro e w5 ⟨ad, capd, rfl, hrow, hb5⟩
    obtain ⟨z1, z2⟩ := (HR9.out.below hb5).cells
    have HB5 := Lib.hid (HB9.out.below hb5)
    have HC5 := Lib.hid (HC9.out.call hb5)
    have HE2 := Lib.hid (R3.out w5)
    have HROW := Lib.hid hrow
    clear HEN hb5 HR9 HB9 HC9 R3 hrow
    by_cases h0 : E = 0
    · have t0 : (E != 0) = false := by simp [h0]
      obtain ⟨tl, htl⟩ : ∃ tl, tl = tokL (x : Int) (y : Int) := ⟨_, rfl⟩
      rw [← htl] at HROW ⊢
      have htlt : ∀ z ∈ tl, z < 256 := by rw [htl]; exact tokL_lt _ _
      by_cases hsame : tl = bs
      · have hv : decV bs = .tuple #[.agg #[.int .i64 (x : Nat), .int .i64 (y : Nat)], .bool true] := by unfold decV; rw [HDS.out, if_pos ⟨(HE0.out.1 h0).1, (HE0.out.1 h0).2, hrt, by rw [← htl]; exact hsame⟩]
        have HV := Lib.hid hv
        have HSM := Lib.hid hsame
        have HTL := Lib.hid htlt
        clear hv hrt h0 hsame htl htlt
        go_wp2_with fail
        refine HE2.out.mono ?_
        rintro e w6 ⟨rfl, hb6⟩
        have HB6 := HB5.out.below hb6
        have KCF := Lib.hid (HC5.out.call hb6)
        have g1 := row_string_all (HROW.out.below hb6) HTL.out capd
        have g2 := row_string_all (HRO.out.below KCF.out.below) HWB.out cap
        rw [HSM.out] at g1
        rw [HSM.out]
        clear hb6 HB5 HC5 z1 z2
        obtain ⟨p1, p2⟩ := HB6.cells
        have hlp := HB6.lt
        have KCC := KCF.out
        clear HE2
        go_wp2_with fail
        refine bodyPost_ret (v := .tuple #[.agg #[.int .i64 (x : Int), .int .i64 (y : Int)], .bool true]) (by simp [results, Try.results24, go_sem, p1]) rfl ⟨by rw [HV.out], ?_⟩
        exact Ch.below (by (repeat (first | with_reducible assumption | with_reducible exact Ch.refl _ _ | with_reducible refine Ch.drew ?_ | with_reducible refine Ch.alloc ?_ _ | (with_reducible refine Ch.set' ?_ ?_; focus (first | (right; rfl; done) | (left; simp; done) | (left; simp; omega) | (left; omega) | (right; simp; done) | (right; simp; omega))))))
      · have hv : decV bs = .tuple #[.agg #[.int .i64 0, .int .i64 0], .bool false] := by unfold decV; rw [HDS.out, if_neg (fun h => hsame (by rw [htl]; exact h.2.2.2))]
        have HV := Lib.hid hv
        have HTL := Lib.hid htlt
        have hneS : ¬ bS tl = bS bs := fun h => hsame (bS_inj htlt HWB.out h)
        have g3 : ((bS tl).toList == (bS bs).toList) = false := by
          rw [beq_eq_false_iff_ne]
          exact fun h => hneS (Go.WideShapes.bytes_inj (by simpa [ByteArray.toList_eq] using h))
        have g4 : ((bS tl).toList != (bS bs).toList) = true := by unfold bne; rw [g3]; rfl
        clear hv hrt h0 hsame htl htlt hneS
        go_wp2_with fail
        refine HE2.out.mono ?_
        rintro e w6 ⟨rfl, hb6⟩
        have HB6 := HB5.out.below hb6
        have KCF := Lib.hid (HC5.out.call hb6)
        have g1 := row_string_all (HROW.out.below hb6) HTL.out capd
        have g2 := row_string_all (HRO.out.below KCF.out.below) HWB.out cap
        clear hb6 HB5 HC5 z1 z2
        obtain ⟨p1, p2⟩ := HB6.cells
        have hlp := HB6.lt
        have KCC := KCF.out
        clear HE2
        go_wp2_with fail
        refine bodyPost_ret (v := .tuple #[.agg #[.int .i64 0, .int .i64 0], .bool false]) (by simp [results, Try.results24, go_sem, p1]) rfl ⟨by rw [HV.out], ?_⟩
        exact Ch.below (by (repeat (first | with_reducible assumption | with_reducible exact Ch.refl _ _ | with_reducible refine Ch.drew ?_ | with_reducible refine Ch.alloc ?_ _ | (with_reducible refine Ch.set' ?_ ?_; focus (first | (right; rfl; done) | (left; simp; done) | (left; simp; omega) | (left; omega) | (right; simp; done) | (right; simp; omega))))))
    · have t0 : (E != 0) = true := by simp [h0]
      have hv : decV bs = .tuple #[.agg #[.int .i64 0, .int .i64 0], .bool false] := by unfold decV; rw [HDS.out, if_neg (fun h => h0 (HE0.out.2 ⟨h.1, h.2.1⟩))]
      have HV := Lib.hid hv
      clear hv h0 hrt
      go_wp2_with fail
      refine HE2.out.mono ?_
      rintro e w6 ⟨rfl, hb6⟩
      have HB6 := HB5.out.below hb6
      have KCF := Lib.hid (HC5.out.call hb6)
      clear hb6 HB5 HC5 z1 z2
      obtain ⟨p1, p2⟩ := HB6.cells
      have hlp := HB6.lt
      have KCC := KCF.out
      clear HE2
      go_wp2_with fail
      refine bodyPost_ret (v := .tuple #[.agg #[.int .i64 0, .int .i64 0], .bool false]) (by simp [results, Try.results24, go_sem, p1]) rfl ⟨by rw [HV.out], ?_⟩
      exact Ch.below (by (repeat (first | with_reducible assumption | with_reducible exact Ch.refl _ _ | with_reducible refine Ch.drew ?_ | with_reducible refine Ch.alloc ?_ _ | (with_reducible refine Ch.set' ?_ ?_; focus (first | (right; rfl; done) | (left; simp; done) | (left; simp; omega) | (left; omega) | (right; simp; done) | (right; simp; omega))))))
end Go.Proofs.Ytjilfmphdncapaa
