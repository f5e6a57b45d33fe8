/- PackCut: the walk. -/
import Derived.Test.YtlombcclglffgaaPkApp
import Derived.Test.YtlombcclglffgaaPkBackL
import Derived.Test.YtlombcclglffgaaPkFlatB
set_option linter.unusedVariables false
set_option linter.unusedSimpArgs false
namespace Go.Proofs.Ytlombcclglffgaa
open Go.RowKit

theorem RowAt.take {w : World} {a : Option Addr} {sz : Nat} {α : Type} {out : α → List Value} {xs : List α} (h : RowAt w a sz out xs) (n : Nat) : RowAt w a sz out (xs.take n) := by
  intro i x hx
  rw [List.getElem?_take] at hx
  split at hx
  · exact h i x hx
  · cases hx
theorem BRow.form {w : World} {base : Nat} {v : Value} {bs : List Nat} (h : BRow w base v bs) (h0 : 0 < bs.length) : ∃ b off cap, v = .slice (some ⟨b, off, none⟩) bs.length cap ∧ bs.length ≤ cap ∧ RowAt w (some ⟨b, off, none⟩) 1 b1 bs := by
  obtain ⟨a, cap, hv, hr⟩ := h.at
  obtain ⟨a2, cap2, hv2, hc⟩ := h.slice
  obtain ⟨x, hx⟩ : ∃ x, bs[0]? = some x := ⟨_, List.getElem?_eq_getElem h0⟩
  obtain ⟨b, off, rfl, _, _⟩ := hr 0 x hx
  rw [hv] at hv2
  simp at hv2
  exact ⟨b, off, cap, hv, by omega, hr⟩
/-- What is written, at a part. -/
theorem write_at {ps : List PartD} {j : Nat} {p : PartD} (h : ps[j]? = some p) : writeF ps = writeF (ps.take j) ++ ((partW p).1 ++ writeF (ps.drop (j + 1))) := by
  have h1 : ps = ps.take j ++ (p :: ps.drop (j + 1)) := by
    obtain ⟨hi, rfl⟩ := List.getElem?_eq_some_iff.1 h
    rw [← List.drop_eq_getElem_cons hi, List.take_append_drop]
  conv => lhs; rw [h1]
  unfold writeF
  rw [List.map_append, List.flatten_append, List.map_cons, List.flatten_cons]
theorem allW_at {ps : List PartD} (h : allW ps = true) {j : Nat} {p : PartD} (hp : ps[j]? = some p) : (partW p).2 = true := List.all_eq_true.1 h p (List.mem_of_getElem? hp)
theorem take_len {ps : List PartD} {j : Nat} {p : PartD} (h : ps[j]? = some p) : (writeF (ps.take (j + 1))).length = (writeF (ps.take j)).length + (partW p).1.length := by rw [take_snoc h, writeF_snoc, List.length_append]

/-- A round of PackCut: what is read of the bytes that are left. -/
theorem cut_step {ps : List PartD} (ha : allW ps = true) {j : Nat} {p : PartD} (hp : ps[j]? = some p) (n k : Nat) (e : Int) (hk : k ≤ ((writeF ps).take n).length) (h : e = 20 ∨ (e = 0 ∧ k = (writeF (ps.take j)).length)) :
    ∃ q c e2, partE e (((writeF ps).take n).drop k) (lifted p) = (q, c, e2) ∧ (e2 = 20 ∨ (e2 = 0 ∧ k + c = (writeF (ps.take (j + 1))).length)) := by
  rcases h with h | ⟨h, hk2⟩
  · subst h
    obtain ⟨q, hq⟩ := part_err (lifted p) (((writeF ps).take n).drop k) 20 (by omega)
    exact ⟨q, 0, 20, hq, .inl rfl⟩
  · subst h
    have hw := write_at hp
    have hd : ((writeF ps).take n).drop k = ((partW p).1 ++ writeF (ps.drop (j + 1))).take (n - k) := by
      rw [List.drop_take, hw, hk2, List.drop_left]
    rw [hd]
    by_cases hc : (partW p).1.length ≤ n - k
    · rw [List.take_append, List.take_of_length_le hc]
      obtain ⟨q, hq, _⟩ := part_back p (allW_at ha hp) ((writeF (ps.drop (j + 1))).take (n - k - (partW p).1.length))
      exact ⟨q, _, 0, hq, .inr ⟨rfl, by rw [take_len hp, hk2]⟩⟩
    · rw [List.take_append_of_le_length (by omega)]
      obtain ⟨q, c, hq⟩ := part_cut p (allW_at ha hp) (n - k) (by omega)
      exact ⟨q, c, 20, hq, .inl rfl⟩

/-- The loop's state. -/
def CutIn (w : World) (r g : Nat) (ps : List PartD) (n : Nat) (v : Value) (wi : World) : Prop :=
  ∃ j k e, j ≤ ps.length ∧ v = .int .i64 (j : Nat) ∧ Rd wi r g ((writeF ps).take n) k e ∧ (e = 20 ∨ (e = 0 ∧ k = (writeF (ps.take j)).length)) ∧ Ch (fun _ => False) w wi

set_option maxRecDepth 100000 in
set_option maxHeartbeats 8000000 in
theorem cut_main (a : Option Addr) (cap : Nat) (ps : List PartD) (n : Nat) (w : World) (ro : RowAt w a 5 PartD.out ps) (hc : room ps ≤ 70368744177664) (ha : allW ps = true) (hf : count ps ≤ 20000) (hn : n < (writeF ps).length) :
    Calls Try.prog 8 #[.slice a ps.length cap, .int .i64 (n : Nat)] w fun e w' => e = .returned (.bool true) ∧ Below w.heap.size w w' := by
  have hcr : count ps ≤ room ps := count_room ps
  have HW := write_any a cap ps w ro hc
  unfold WritePost at HW
  rw [ha] at HW
  have HW := Lib.hid HW
  have HRO := Lib.hid ro
  have HC := Lib.hid hc
  have HA := Lib.hid ha
  have hpl : ps.length ≤ 70368744177664 := Nat.le_trans (length_room ps) hc
  have hwl := Nat.le_trans (writeF_len ps) hc
  have HF := Lib.hid hf
  have h1 : decide ((n : Int) < 0) = false := by simp
  have h2 : decide (((writeF ps).length : Int) ≤ (n : Int)) = false := by simp; omega
  clear ro hc ha hcr hf
  go_enter Try.func8, Try.ntmps8
  go_wp2_with fail
  refine HW.out.mono ?_
  rintro e w1 ⟨v, rfl, R1, hb1⟩
  have HC1 := Lib.hid (Ch.of_below (fun _ => False) hb1)
  have HRO1 := HRO.out.below hb1
  have HF1 := few_any a cap ps w1 HRO1 (by have := HF.out; omega)
  rw [show decide (count ps ≤ 20000) = true by simpa using HF.out] at HF1
  have HF1 := Lib.hid HF1
  have HRO1 := Lib.hid HRO1
  have HR1 := Lib.hid R1
  clear HW R1 hb1
  go_wp2_with fail
  refine HF1.out.mono ?_
  rintro e w2 ⟨rfl, hb2⟩
  have HC2 := Lib.hid (HC1.out.call hb2)
  have HRO2 := Lib.hid (HRO1.out.below hb2)
  obtain ⟨b1', off1, cap1, rfl, hcap1, hrow1⟩ := BRow.form (HR1.out.below hb2) (by omega)
  have HN := new_any (some ⟨b1', off1, none⟩) cap1 ((writeF ps).take n) w2 (hrow1.take n) (by rw [List.length_take]; omega)
  have hln : ((writeF ps).take n).length = n := by rw [List.length_take]; omega
  rw [hln] at HN
  have HN := Lib.hid HN
  have HLN := Lib.hid hln
  have hlt1 : n ≤ cap1 := by omega
  have h3 : decide (cap1 < n) = false := by simp; omega
  clear HF1 hb2 HC1 HRO1 HR1 hrow1 hln
  go_wp2_with fail
  refine HN.out.mono ?_
  rintro e w3 ⟨r, g, rfl, D3, hr, hg, hb3⟩
  have HC3 := Lib.hid (HC2.out.call hb3)
  have HD3 := Lib.hid D3
  have hrw := Nat.le_trans HC2.out.size hr
  clear HN D3 HC2 HRO2
  go_wp2_with fail
  go_loopw [41] (fun v41 wi => CutIn w r g ps n v41 wi) (fun i _ => ps.length - (intOf i).toNat)
  case atStart => exact ⟨0, 0, 0, Nat.zero_le _, rfl, HD3.out, .inr ⟨rfl, by simp [writeF]⟩, HC3.out⟩
  case round =>
    obtain ⟨j, k, e, hj, rfl, D5, hinv, C5⟩ := hrel
    have KD := Lib.hid D5
    have KC := Lib.hid C5
    have KI := Lib.hid hinv
    clear D5 C5 hinv
    by_cases hlt : j < ps.length
    · have ht : decide ((j : Int) < (ps.length : Int)) = true := by simpa using hlt
      have ht2 : decide (ps.length ≤ j) = false := by simpa using hlt
      obtain ⟨p, hp⟩ : ∃ p, ps[j]? = some p := ⟨_, List.getElem?_eq_getElem hlt⟩
      obtain ⟨b0, off, rfl, hb0, hcells⟩ := HRO.out j p hp
      have q0 : wr.cell? ⟨b0, off + j * 5, none⟩ = some (.int .i64 p.k) := (KC.out.below.cell (p := ⟨b0, _, none⟩) hb0).trans (hcells 0 _ rfl)
      have q1 : wr.cell? ⟨b0, off + j * 5 + 1, none⟩ = some (.int .i64 p.n) := (KC.out.below.cell (p := ⟨b0, _, none⟩) hb0).trans (hcells 1 _ rfl)
      have q2 : wr.cell? ⟨b0, off + j * 5 + 2, none⟩ = some (.int .i64 p.most) := (KC.out.below.cell (p := ⟨b0, _, none⟩) hb0).trans (hcells 2 _ rfl)
      have q3 : wr.cell? ⟨b0, off + j * 5 + 3, none⟩ = some (.string p.s) := (KC.out.below.cell (p := ⟨b0, _, none⟩) hb0).trans (hcells 3 _ rfl)
      have q4 : wr.cell? ⟨b0, off + j * 5 + 4, none⟩ = some (.bool p.is) := (KC.out.below.cell (p := ⟨b0, _, none⟩) hb0).trans (hcells 4 _ rfl)
      obtain ⟨q, c, e2, hq, hinv2⟩ := cut_step HA.out hp n k e KD.out.le KI.out
      have HR := Lib.hid (part_any r g _ k e (lifted p) (wr.alloc (.cells #[.int .i64 p.k, .int .i64 p.n, .int .i64 4611686018427387904, .string p.s, .bool p.is] 38)) (KD.out.alloc _) (fun b hb => writeF_lt ps b (List.mem_of_mem_take hb)) (by unfold maxLen; rw [HLN.out]; omega))
      have HQ := Lib.hid hq
      have HI2 := Lib.hid hinv2
      have HC4 := Lib.hid (KC.out.alloc (.cells #[.int .i64 p.k, .int .i64 p.n, .int .i64 4611686018427387904, .string p.s, .bool p.is] 38))
      have hrl := KD.out.lt
      clear hcells hq hinv2
      go_wp2_with fail
      refine HR.out.mono ?_
      intro x w5 hpost
      obtain ⟨rfl, D6, c6⟩ := hpost.at HQ.out
      have HD6 := Lib.hid D6
      have HC6 := Lib.hid (HC4.out.step c6 (fun b hb e => by omega))
      clear HR hpost D6 c6 HC4 q0 q1 q2 q3 q4
      go_wp2_with fail
      go_roundw
      case rel => exact ⟨j + 1, k + c, e2, hlt, by simp, HD6.out, HI2.out, HC6.out⟩
      case measure => simp only [intOf]; omega
    · have ht : decide ((j : Int) < (ps.length : Int)) = false := by simpa using hlt
      have ht2 : decide (ps.length ≤ j) = true := by simp; omega
      have he : e = 20 := by
        rcases KI.out with h | ⟨_, h⟩
        · exact h
        · exfalso
          rw [show j = ps.length by omega, List.take_length] at h
          have := KD.out.le
          rw [HLN.out] at this
          omega
      subst he
      clear KI
      go_wp2_with fail
      refine (alive_any _).mono ?_
      rintro e w5 ⟨rfl, hb5⟩
      have HE := Lib.hid (err_any r g _ k 20 w5 (KD.out.below hb5))
      go_wp2_with fail
      refine HE.out.mono ?_
      rintro e w6 ⟨rfl, hb6⟩
      go_wp2_with fail
      go_ret
      exact ⟨rfl, (((KC.out.call hb5)).call hb6).below⟩

set_option maxRecDepth 100000 in
set_option maxHeartbeats 8000000 in
theorem cut_out (a : Option Addr) (cap : Nat) (ps : List PartD) (n : Int) (w : World) (ro : RowAt w a 5 PartD.out ps) (hc : room ps ≤ 70368744177664) (h : allW ps = false ∨ (allW ps = true ∧ (20000 < count ps ∨ (count ps ≤ 20000 ∧ (n < 0 ∨ (0 ≤ n ∧ (writeF ps).length ≤ n)))))) :
    Calls Try.prog 8 #[.slice a ps.length cap, .int .i64 n] w fun e w' => e = .returned (.bool true) ∧ Below w.heap.size w w' := by
  have hcr : count ps ≤ room ps := count_room ps
  have HW := write_any a cap ps w ro hc
  unfold WritePost at HW
  have hwl := Nat.le_trans (writeF_len ps) hc
  rcases h with h | ⟨hall, h⟩
  · rw [h] at HW
    have HW := Lib.hid HW
    clear ro hc hcr h
    go_enter Try.func8, Try.ntmps8
    go_wp2_with fail
    refine HW.out.mono ?_
    rintro e w1 ⟨v, rfl, R1, hb1⟩
    go_wp2_with fail
    refine (alive_any _).mono ?_
    rintro e w5 ⟨rfl, hb5⟩
    go_wp2_with fail
    go_ret
    exact ⟨rfl, ((Ch.of_below (fun _ => False) hb1).call hb5).below⟩
  · rw [hall] at HW
    have HW := Lib.hid HW
    have HRO := Lib.hid ro
    have HFW := Lib.hid (fun w1 hr => few_any a cap ps w1 hr (by omega))
    clear ro hc hcr
    rcases h with h | ⟨h, h⟩
    · have hfw : decide (count ps ≤ 20000) = false := by simp; omega
      clear h
      go_enter Try.func8, Try.ntmps8
      go_wp2_with fail
      refine HW.out.mono ?_
      rintro e w1 ⟨v, rfl, R1, hb1⟩
      have HF1 := HFW.out w1 (HRO.out.below hb1)
      rw [hfw] at HF1
      have HF1 := Lib.hid HF1
      obtain ⟨a1, cap1, rfl, hcap1⟩ := R1.slice
      clear HFW HW R1 hfw
      go_wp2_with fail
      refine HF1.out.mono ?_
      rintro e w2 ⟨rfl, hb2⟩
      go_wp2_with fail
      refine (alive_any _).mono ?_
      rintro e w5 ⟨rfl, hb5⟩
      go_wp2_with fail
      go_ret
      exact ⟨rfl, (((Ch.of_below (fun _ => False) hb1).call hb2).call hb5).below⟩
    · rcases h with h | ⟨h0, h⟩
      · have hfw : decide (count ps ≤ 20000) = true := by simp; omega
        have h1 : decide (n < 0) = true := by simpa using h
        clear h
        go_enter Try.func8, Try.ntmps8
        go_wp2_with fail
        refine HW.out.mono ?_
        rintro e w1 ⟨v, rfl, R1, hb1⟩
        have HF1 := HFW.out w1 (HRO.out.below hb1)
        rw [hfw] at HF1
        have HF1 := Lib.hid HF1
        obtain ⟨a1, cap1, rfl, hcap1⟩ := R1.slice
        clear HFW HW R1 hfw
        go_wp2_with fail
        refine HF1.out.mono ?_
        rintro e w2 ⟨rfl, hb2⟩
        go_wp2_with fail
        refine (alive_any _).mono ?_
        rintro e w5 ⟨rfl, hb5⟩
        go_wp2_with fail
        go_ret
        exact ⟨rfl, (((Ch.of_below (fun _ => False) hb1).call hb2).call hb5).below⟩
      · have hfw : decide (count ps ≤ 20000) = true := by simp; omega
        have h1 : decide (n < 0) = false := by simp; omega
        have h2 : decide (((writeF ps).length : Int) ≤ n) = true := by simpa using h
        clear h h0
        go_enter Try.func8, Try.ntmps8
        go_wp2_with fail
        refine HW.out.mono ?_
        rintro e w1 ⟨v, rfl, R1, hb1⟩
        have HF1 := HFW.out w1 (HRO.out.below hb1)
        rw [hfw] at HF1
        have HF1 := Lib.hid HF1
        obtain ⟨a1, cap1, rfl, hcap1⟩ := R1.slice
        clear HFW HW R1 hfw
        go_wp2_with fail
        refine HF1.out.mono ?_
        rintro e w2 ⟨rfl, hb2⟩
        go_wp2_with fail
        refine (alive_any _).mono ?_
        rintro e w5 ⟨rfl, hb5⟩
        go_wp2_with fail
        go_ret
        exact ⟨rfl, (((Ch.of_below (fun _ => False) hb1).call hb2).call hb5).below⟩

/-- PackCut answers true. -/
theorem cut_row (a : Option Addr) (cap : Nat) (ps : List PartD) (n : Int) (w : World) (_ : ps.length ≤ cap) (ro : RowAt w a 5 PartD.out ps) (_ : ∀ p ∈ ps, p.s.size ≤ maxLen) (_ : ps.length * 48 ≤ 140737488351232) (_ : (Lit.int .i64 n).wf = true) (hb : (ps.map fun p => p.s.size + 5).sum + 1 ≤ 1048576) :
    Calls Try.prog 8 #[.slice a ps.length cap, .int .i64 n] w fun e w' => e = .returned (.bool true) ∧ Below w.heap.size w w' := by
  have hr : room ps ≤ 70368744177664 := by have := room_bulk ps; omega
  cases ha : allW ps with
  | false => exact cut_out a cap ps n w ro hr (.inl ha)
  | true =>
    by_cases hf : count ps ≤ 20000
    · by_cases h0 : n < 0
      · exact cut_out a cap ps n w ro hr (.inr ⟨ha, .inr ⟨hf, .inl h0⟩⟩)
      · by_cases h1 : (writeF ps).length ≤ n
        · exact cut_out a cap ps n w ro hr (.inr ⟨ha, .inr ⟨hf, .inr ⟨by omega, h1⟩⟩⟩)
        · obtain ⟨m, rfl⟩ : ∃ m : Nat, n = (m : Int) := ⟨n.toNat, by omega⟩
          exact cut_main a cap ps m w ro hr ha hf (by omega)
    · exact cut_out a cap ps n w ro hr (.inr ⟨ha, .inl (by omega)⟩)
end Go.Proofs.Ytlombcclglffgaa
