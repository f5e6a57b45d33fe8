/- PackBack: the walk. -/
import Derived.Test.YtlombcclglffgaaPkCut
import Derived.Test.YtlombcclglffgaaPkFlat
set_option linter.unusedVariables false
set_option linter.unusedSimpArgs false
namespace Go.Proofs.Ytlombcclglffgaa
open Go.RowKit

/-- A round of PackBack. -/
theorem back_step {ps : List PartD} (ha : allW ps = true) {j : Nat} {p : PartD} (hp : ps[j]? = some p) (ms : List Nat) :
    ∃ q c, partE 0 ((writeF ps ++ ms).drop (writeF (ps.take j)).length) (lifted p) = (q, c, 0) ∧ (writeF (ps.take j)).length + c = (writeF (ps.take (j + 1))).length ∧ (p.k = 0 → q.n = p.n) ∧ (p.k = 1 → q.s = p.s) ∧ (p.k = 2 → q.is = p.is) := by
  rw [write_at hp, List.append_assoc, List.drop_left, List.append_assoc]
  obtain ⟨q, hq, h1, h2, h3⟩ := part_back p (allW_at ha hp) (writeF (ps.drop (j + 1)) ++ ms)
  exact ⟨q, _, hq, (take_len hp).symm, h1, h2, h3⟩

/-- The loop's state. -/
def BackIn (w : World) (r g : Nat) (ps : List PartD) (ms : List Nat) (v : Value) (wi : World) : Prop :=
  ∃ j, j ≤ ps.length ∧ v = .int .i64 (j : Nat) ∧ Rd wi r g (writeF ps ++ ms) (writeF (ps.take j)).length 0 ∧ Ch (fun _ => False) w wi

set_option maxRecDepth 100000 in
set_option maxHeartbeats 8000000 in
theorem back_main (a a2 : Option Addr) (cap cap2 : Nat) (ps : List PartD) (ms : List Nat) (w : World) (ro : RowAt w a 5 PartD.out ps) (ro2 : RowAt w a2 1 b1 ms) (wb : ∀ b ∈ ms, b < 256) (hc : room ps ≤ 70368744177664 - 20000) (ha : allW ps = true) (hf : count ps ≤ 20000) (hm : ms.length ≤ 20000) :
    Calls Try.prog 9 #[.slice a ps.length cap, .slice a2 ms.length cap2] w fun e w' => e = .returned (.bool true) ∧ Below w.heap.size w w' := by
  have hcr : count ps ≤ room ps := count_room ps
  have HW := write_any a cap ps w ro (by omega)
  unfold WritePost at HW
  rw [ha] at HW
  have HW := Lib.hid HW
  have HRO := Lib.hid ro
  have HROM := Lib.hid ro2
  have HC := Lib.hid hc
  have HA := Lib.hid ha
  have HWB := Lib.hid wb
  have hpl : ps.length ≤ 70368744177664 := Nat.le_trans (length_room ps) (by omega)
  have hwl := Nat.le_trans (writeF_len ps) hc
  have HF := Lib.hid hf
  have h1 : decide ((20000 : Int) < (ms.length : Int)) = false := by simp; omega
  clear ro ro2 wb hc ha hcr hf
  go_enter Try.func9, Try.ntmps9
  go_wp2_with fail
  refine HW.out.mono ?_
  rintro e w1 ⟨v, rfl, R1, hb1⟩
  have HC1 := Lib.hid (Ch.of_below (fun _ => False) hb1)
  have HRO1 := HRO.out.below hb1
  have HF1 := few_any a cap ps w1 HRO1 (by have := HF.out; omega)
  rw [show decide (count ps ≤ 20000) = true by simpa using HF.out] at HF1
  have HF1 := Lib.hid HF1
  have HRO1 := Lib.hid HRO1
  have HROM1 := Lib.hid (HROM.out.below hb1)
  have HR1 := Lib.hid R1
  clear HW R1 hb1
  go_wp2_with fail
  refine HF1.out.mono ?_
  rintro e w2 ⟨rfl, hb2⟩
  have HC2 := Lib.hid (HC1.out.call hb2)
  have HRO2 := Lib.hid (HRO1.out.below hb2)
  have HROM2 := Lib.hid (HROM1.out.below hb2)
  have HR2 := Lib.hid (HR1.out.below hb2)
  have hsz2 := HC2.out.size
  clear HF1 hb2 HC1 HRO1 HR1 HROM1
  go_wp2_with (at_builtin; refine wpList_append_bytes rfl (.tmp 29) (.tmp 30) rfl rfl (bs := ms) (cap := cap2) (ad := a2) rfl rfl HR2.out HROM2.out hsz2 ?c1 ?_)
  case c1 => omega
  intro v2 w2b R2b hgrow
  have hown : ∀ b, v.ownBlock = some b → w.heap.size ≤ b := HR2.out.own
  have HC2b := Lib.hid (HC2.out.step (Ch.of_grown hgrow) (fun k hk e => by have := hown k e.symm; omega))
  obtain ⟨a3, cap3, rfl, hrow3⟩ := R2b.at
  have hln : (writeF ps ++ ms).length = (writeF ps).length + ms.length := by rw [List.length_append]
  obtain ⟨al, hal⟩ : ∃ al, al = writeF ps ++ ms := ⟨_, rfl⟩
  rw [← hal] at hln hrow3 ⊢
  have HN := Lib.hid (new_any a3 cap3 al w2b hrow3 (by omega))
  have HAL := Lib.hid hal
  have HLN := Lib.hid hln
  clear HC2 HRO2 HROM2 HR2 R2b hgrow hrow3 hal hln
  go_wp2_with fail
  refine HN.out.mono ?_
  rintro e w3 ⟨r, g, rfl, D3, hr, hg, hb3⟩
  have HC3 := Lib.hid (HC2b.out.call hb3)
  rw [HAL.out] at D3
  have HD3 := Lib.hid D3
  have hrw := Nat.le_trans HC2b.out.size hr
  clear HN D3 HC2b
  go_wp2_with fail
  go_loopw [37] (fun v37 wi => BackIn w r g ps ms v37 wi) (fun i _ => ps.length - (intOf i).toNat)
  case atStart => exact ⟨0, Nat.zero_le _, rfl, by simpa [writeF] using HD3.out, HC3.out⟩
  case round =>
    obtain ⟨j, hj, rfl, D5, C5⟩ := hrel
    have KD := Lib.hid D5
    have KC := Lib.hid C5
    clear D5 C5
    by_cases hlt : j < ps.length
    · have ht : decide ((j : Int) < (ps.length : Int)) = true := by simpa using hlt
      have ht2 : decide (ps.length ≤ j) = false := by simpa using hlt
      obtain ⟨p, hp⟩ : ∃ p, ps[j]? = some p := ⟨_, List.getElem?_eq_getElem hlt⟩
      obtain ⟨b0, off, rfl, hb0, hcells⟩ := HRO.out j p hp
      have q0 : wr.cell? ⟨b0, off + j * 5, none⟩ = some (.int .i64 p.k) := (KC.out.below.cell (p := ⟨b0, _, none⟩) hb0).trans (hcells 0 _ rfl)
      have q1 : wr.cell? ⟨b0, off + j * 5 + 1, none⟩ = some (.int .i64 p.n) := (KC.out.below.cell (p := ⟨b0, _, none⟩) hb0).trans (hcells 1 _ rfl)
      have q2 : wr.cell? ⟨b0, off + j * 5 + 2, none⟩ = some (.int .i64 p.most) := (KC.out.below.cell (p := ⟨b0, _, none⟩) hb0).trans (hcells 2 _ rfl)
      have q3 : wr.cell? ⟨b0, off + j * 5 + 3, none⟩ = some (.string p.s) := (KC.out.below.cell (p := ⟨b0, _, none⟩) hb0).trans (hcells 3 _ rfl)
      have q4 : wr.cell? ⟨b0, off + j * 5 + 4, none⟩ = some (.bool p.is) := (KC.out.below.cell (p := ⟨b0, _, none⟩) hb0).trans (hcells 4 _ rfl)
      obtain ⟨⟨qk, qn, qm, qs, qi⟩, c, hq, hkc, e0, e1, e2⟩ := back_step HA.out hp ms
      simp only at e0 e1 e2
      have HR := Lib.hid (part_any r g _ _ 0 (lifted p) (wr.alloc (.cells #[.int .i64 p.k, .int .i64 p.n, .int .i64 4611686018427387904, .string p.s, .bool p.is] 38)) (KD.out.alloc _) (fun b hb => by
        rcases List.mem_append.1 hb with h | h
        · exact writeF_lt ps b h
        · exact HWB.out b h) (by unfold maxLen; rw [← HAL.out, HLN.out]; omega))
      have HQ := Lib.hid hq
      have HKC := Lib.hid hkc
      have HC4 := Lib.hid (KC.out.alloc (.cells #[.int .i64 p.k, .int .i64 p.n, .int .i64 4611686018427387904, .string p.s, .bool p.is] 38))
      have P4 := Lib.hid (Blk.new wr #[.int .i64 p.k, .int .i64 p.n, .int .i64 4611686018427387904, .string p.s, .bool p.is] 38)
      have hrl := KD.out.lt
      clear hcells hq hkc
      go_wp2_with fail
      refine HR.out.mono ?_
      intro x w5 hpost
      obtain ⟨rfl, D6, c6⟩ := hpost.at HQ.out
      have HD6 := Lib.hid D6
      have P6 := P4.out.ch c6 (by omega)
      have HC6 := Lib.hid ((HC4.out.step c6 (fun b hb e => by omega)).alloc (.cells #[.int .i64 qk, .int .i64 qn, .int .i64 qm, .string qs, .bool qi] 38))
      have hsz6 := P6.lt
      have P7 := P6.alloc (.cells #[.int .i64 qk, .int .i64 qn, .int .i64 qm, .string qs, .bool qi] 38)
      have HD7 := Lib.hid (D6.alloc (.cells #[.int .i64 qk, .int .i64 qn, .int .i64 qm, .string qs, .bool qi] 38))
      have HE := Lib.hid (err_any r g _ _ 0 _ HD7.out)
      obtain ⟨x1, x2⟩ := P6.cells
      clear HR hpost D6 c6 HC4 q0 q1 q2 q3 q4 P4 P6 P7
      by_cases h0 : p.k = 0
      · have t0 : (p.k == 0) = true := by simp [h0]
        have t1 : (p.k == 1) = false := by simp [h0]
        have t2 : (p.k == 2) = false := by simp [h0]
        obtain rfl := e0 h0
        clear h0 e0 e1 e2
        go_wp2_with fail
        refine HE.out.mono ?_
        rintro e w8 ⟨rfl, hb8⟩
        have HD8 := Lib.hid (HD7.out.below hb8)
        have HC8 := Lib.hid (HC6.out.call hb8)
        clear HE hb8 HC6 HD7
        go_wp2_with fail
        go_roundw
        case rel => exact ⟨j + 1, hlt, by simp, by have := HD8.out; rw [HKC.out] at this; exact this, HC8.out⟩
        case measure => simp only [intOf]; omega
      by_cases h1 : p.k = 1
      · have t0 : (p.k == 0) = false := by simp [h1]
        have t1 : (p.k == 1) = true := by simp [h1]
        have t2 : (p.k == 2) = false := by simp [h1]
        obtain rfl := e1 h1
        clear h0 h1 e0 e1 e2
        go_wp2_with fail
        refine HE.out.mono ?_
        rintro e w8 ⟨rfl, hb8⟩
        have HD8 := Lib.hid (HD7.out.below hb8)
        have HC8 := Lib.hid (HC6.out.call hb8)
        clear HE hb8 HC6 HD7
        go_wp2_with fail
        go_roundw
        case rel => exact ⟨j + 1, hlt, by simp, by have := HD8.out; rw [HKC.out] at this; exact this, HC8.out⟩
        case measure => simp only [intOf]; omega
      by_cases h2 : p.k = 2
      · have t0 : (p.k == 0) = false := by simp [h2]
        have t1 : (p.k == 1) = false := by simp [h2]
        have t2 : (p.k == 2) = true := by simp [h2]
        obtain rfl := e2 h2
        clear h0 h1 h2 e0 e1 e2
        go_wp2_with fail
        refine HE.out.mono ?_
        rintro e w8 ⟨rfl, hb8⟩
        have HD8 := Lib.hid (HD7.out.below hb8)
        have HC8 := Lib.hid (HC6.out.call hb8)
        clear HE hb8 HC6 HD7
        go_wp2_with fail
        go_roundw
        case rel => exact ⟨j + 1, hlt, by simp, by have := HD8.out; rw [HKC.out] at this; exact this, HC8.out⟩
        case measure => simp only [intOf]; omega
      · have t0 : (p.k == 0) = false := by simp [h0]
        have t1 : (p.k == 1) = false := by simp [h1]
        have t2 : (p.k == 2) = false := by simp [h2]
        clear h0 h1 h2 e0 e1 e2
        go_wp2_with fail
        refine HE.out.mono ?_
        rintro e w8 ⟨rfl, hb8⟩
        have HD8 := Lib.hid (HD7.out.below hb8)
        have HC8 := Lib.hid (HC6.out.call hb8)
        clear HE hb8 HC6 HD7
        go_wp2_with fail
        go_roundw
        case rel => exact ⟨j + 1, hlt, by simp, by have := HD8.out; rw [HKC.out] at this; exact this, HC8.out⟩
        case measure => simp only [intOf]; omega
    · have ht : decide ((j : Int) < (ps.length : Int)) = false := by simpa using hlt
      have ht2 : decide (ps.length ≤ j) = true := by simp; omega
      have KD2 := KD.out
      rw [show j = ps.length by omega, List.take_length] at KD2
      have HD := Lib.hid KD2
      have hleft : ((((writeF ps ++ ms).length - (writeF ps).length : Nat) : Int) == (ms.length : Int)) = true := by simp
      obtain ⟨E, hE⟩ : ∃ E : Int, E = (if (writeF ps).length = (writeF ps ++ ms).length then 0 else 22) := ⟨_, rfl⟩
      have HEv := Lib.hid hE
      have hEm : ((E == 0) == ((ms.length : Int) == 0)) = true := by
        rw [hE]
        have hll : (writeF ps ++ ms).length = (writeF ps).length + ms.length := by rw [List.length_append]
        by_cases h0 : ms.length = 0
        · rw [if_pos (by omega), h0]
          rfl
        · rw [if_neg (by omega)]
          have : ((ms.length : Int) == 0) = false := beq_eq_false_iff_ne.2 (by omega)
          rw [this]
          rfl
      clear KD KD2 hE
      go_wp2_with fail
      refine (alive_any _).mono ?_
      rintro e w5 ⟨rfl, hb5⟩
      have HL := Lib.hid (left_any r g _ _ 0 w5 (HD.out.below hb5))
      go_wp2_with fail
      refine HL.out.mono ?_
      rintro e w6 ⟨rfl, hb6⟩
      have HE := end_any r g _ _ 0 w6 ((HD.out.below hb5).below hb6)
      rw [if_pos rfl, ← HEv.out] at HE
      have HE := Lib.hid HE
      go_wp2_with fail
      refine HE.out.mono ?_
      rintro e w7 ⟨rfl, hb7⟩
      go_wp2_with fail
      go_ret
      exact ⟨rfl, ((((KC.out.call hb5)).call hb6).call hb7).below⟩
theorem flatByteB : FlatB Try.prog 5 b1 (fun b => b < 256) (fun _ => 1) :=
  FlatB.iso (FlatB.int Try.underlying5) (fun n : Int => n.toNat) (fun n h => by
    simp [Lit.wf, IntKind.min, IntKind.max, IntKind.bits, IntKind.signed] at h
    exact ⟨by simp only [b1, by8]; rw [Int.toNat_of_nonneg (by omega)], by omega, Nat.le_refl _⟩)

set_option maxRecDepth 100000 in
set_option maxHeartbeats 8000000 in
theorem back_out (a a2 : Option Addr) (cap cap2 : Nat) (ps : List PartD) (n : Nat) (w : World) (ro : RowAt w a 5 PartD.out ps) (hc : room ps ≤ 70368744177664) (h : allW ps = false ∨ (allW ps = true ∧ (20000 < count ps ∨ (count ps ≤ 20000 ∧ 20000 < n)))) :
    Calls Try.prog 9 #[.slice a ps.length cap, .slice a2 n cap2] w fun e w' => e = .returned (.bool true) ∧ Below w.heap.size w w' := by
  have hcr : count ps ≤ room ps := count_room ps
  have HW := write_any a cap ps w ro hc
  unfold WritePost at HW
  rcases h with h | ⟨hall, h⟩
  · rw [h] at HW
    have HW := Lib.hid HW
    clear ro hc hcr h
    go_enter Try.func9, Try.ntmps9
    go_wp2_with fail
    refine HW.out.mono ?_
    rintro e w1 ⟨v, rfl, R1, hb1⟩
    go_wp2_with fail
    refine (alive_any _).mono ?_
    rintro e w5 ⟨rfl, hb5⟩
    go_wp2_with fail
    go_ret
    exact ⟨rfl, ((Ch.of_below (fun _ => False) hb1).call hb5).below⟩
  · rw [hall] at HW
    have HW := Lib.hid HW
    have HRO := Lib.hid ro
    have HFW := Lib.hid (fun w1 hr => few_any a cap ps w1 hr (by omega))
    clear ro hc hcr
    rcases h with h | ⟨h0, h⟩
    · have hfw : decide (count ps ≤ 20000) = false := by simp; omega
      clear h
      go_enter Try.func9, Try.ntmps9
      go_wp2_with fail
      refine HW.out.mono ?_
      rintro e w1 ⟨v, rfl, R1, hb1⟩
      have HF1 := HFW.out w1 (HRO.out.below hb1)
      rw [hfw] at HF1
      have HF1 := Lib.hid HF1
      clear HFW HW R1 hfw
      go_wp2_with fail
      refine HF1.out.mono ?_
      rintro e w2 ⟨rfl, hb2⟩
      go_wp2_with fail
      refine (alive_any _).mono ?_
      rintro e w5 ⟨rfl, hb5⟩
      go_wp2_with fail
      go_ret
      exact ⟨rfl, (((Ch.of_below (fun _ => False) hb1).call hb2).call hb5).below⟩
    · have hfw : decide (count ps ≤ 20000) = true := by simp; omega
      have h1 : decide ((20000 : Int) < (n : Int)) = true := by simp; omega
      clear h h0
      go_enter Try.func9, Try.ntmps9
      go_wp2_with fail
      refine HW.out.mono ?_
      rintro e w1 ⟨v, rfl, R1, hb1⟩
      have HF1 := HFW.out w1 (HRO.out.below hb1)
      rw [hfw] at HF1
      have HF1 := Lib.hid HF1
      clear HFW HW R1 hfw
      go_wp2_with fail
      refine HF1.out.mono ?_
      rintro e w2 ⟨rfl, hb2⟩
      go_wp2_with fail
      refine (alive_any _).mono ?_
      rintro e w5 ⟨rfl, hb5⟩
      go_wp2_with fail
      go_ret
      exact ⟨rfl, (((Ch.of_below (fun _ => False) hb1).call hb2).call hb5).below⟩

/-- PackBack answers true. -/
theorem back_row (a : Option Addr) (cap : Nat) (ps : List PartD) (a2 : Option Addr) (cap2 : Nat) (ms : List Nat) (w : World) (_ : ps.length ≤ cap) (ro : RowAt w a 5 PartD.out ps) (_ : ∀ p ∈ ps, p.s.size ≤ maxLen) (_ : ps.length * 48 ≤ 140737488351232)
    (_ : ms.length ≤ cap2) (ro2 : RowAt w a2 1 b1 ms) (wb : ∀ b ∈ ms, b < 256) (_ : ms.length * 1 ≤ 140737488351232) (hb : (ps.map fun p => p.s.size + 5).sum + 1 ≤ 1048576) (_ : (ms.map fun _ => 1).sum + 1 ≤ 1048576) :
    Calls Try.prog 9 #[.slice a ps.length cap, .slice a2 ms.length cap2] w fun e w' => e = .returned (.bool true) ∧ Below w.heap.size w w' := by
  have hr : room ps ≤ 2097152 := by have := room_bulk ps; omega
  cases ha : allW ps with
  | false => exact back_out a a2 cap cap2 ps _ w ro (by omega) (.inl ha)
  | true =>
    by_cases hf : count ps ≤ 20000
    · by_cases hm : ms.length ≤ 20000
      · exact back_main a a2 cap cap2 ps ms w ro ro2 wb (by omega) ha hf hm
      · exact back_out a a2 cap cap2 ps _ w ro (by omega) (.inr ⟨ha, .inr ⟨hf, by omega⟩⟩)
    · exact back_out a a2 cap cap2 ps _ w ro (by omega) (.inr ⟨ha, .inl (by omega)⟩)
end Go.Proofs.Ytlombcclglffgaa
