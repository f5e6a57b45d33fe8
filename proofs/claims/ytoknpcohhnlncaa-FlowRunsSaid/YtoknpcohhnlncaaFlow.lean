/- flow's Note and Parse, by their contracts. -/
import Derived.Test.YtoknpcohhnlncaaPkY
set_option linter.unusedVariables false
set_option linter.unusedSimpArgs false
namespace Go.Proofs.Ytoknpcohhnlncaa
open Go.RowKit

/-- What a log has of a step. -/
def noteF (step : Int) (v : ByteArray) : Option (List Nat) := if 0 ≤ step ∧ step < 64 ∧ v.size ≤ 900 then some (encN step.toNat ++ (encN v.size ++ sB v)) else none
theorem noteF_lt {step : Int} {v : ByteArray} {l : List Nat} (h : noteF step v = some l) : ∀ b ∈ l, b < 256 := by
  unfold noteF at h
  split at h
  · cases h
    intro b hb
    rcases List.mem_append.1 hb with h1 | h1
    · exact encN_lt _ b h1
    · rcases List.mem_append.1 h1 with h2 | h2
      · exact encN_lt _ b h2
      · exact sB_lt _ b h2
  · cases h

set_option maxRecDepth 100000 in
set_option maxHeartbeats 4000000 in
theorem note_bad (step : Int) (v : ByteArray) (w : World) (h : noteF step v = none) (hv : v.size ≤ maxLen) : Calls Try.prog 8 #[.int .i64 step, .string v] w fun e w' => e = .returned (.tuple #[.string ⟨#[]⟩, .bool false]) ∧ Below w.heap.size w w' := by
  have hn : ¬ (0 ≤ step ∧ step < 64 ∧ v.size ≤ 900) := by
    intro h2
    unfold noteF at h
    rw [if_pos h2] at h
    cases h
  by_cases h0 : step < 0
  · have t0 : decide (step < 0) = true := by simpa using h0
    clear h hn h0
    go_enter Try.func8, Try.ntmps8
    go_wp2_with fail
    exact bodyPost_ret (v := .tuple #[.string ⟨#[]⟩, .bool false]) (by simp [results, Try.results8, go_sem]) rfl ⟨rfl, Ch.below (by (repeat (first | with_reducible assumption | with_reducible exact Ch.refl _ _ | with_reducible refine Ch.drew ?_ | with_reducible refine Ch.alloc ?_ _ | (with_reducible refine Ch.set' ?_ ?_; focus (first | (right; rfl; done) | (left; simp; done) | (left; simp; omega) | (left; omega) | (right; simp; done) | (right; simp; omega))))))⟩
  have t0 : decide (step < 0) = false := by simpa using h0
  by_cases h1 : 64 ≤ step
  · have t1 : decide (64 ≤ step) = true := by simpa using h1
    clear h hn h0 h1
    go_enter Try.func8, Try.ntmps8
    go_wp2_with fail
    exact bodyPost_ret (v := .tuple #[.string ⟨#[]⟩, .bool false]) (by simp [results, Try.results8, go_sem]) rfl ⟨rfl, Ch.below (by (repeat (first | with_reducible assumption | with_reducible exact Ch.refl _ _ | with_reducible refine Ch.drew ?_ | with_reducible refine Ch.alloc ?_ _ | (with_reducible refine Ch.set' ?_ ?_; focus (first | (right; rfl; done) | (left; simp; done) | (left; simp; omega) | (left; omega) | (right; simp; done) | (right; simp; omega))))))⟩
  · have t1 : decide (64 ≤ step) = false := by simpa using h1
    have t2 : decide ((900 : Int) < (v.size : Int)) = true := by simp; omega
    clear h hn h0 h1
    go_enter Try.func8, Try.ntmps8
    go_wp2_with fail
    exact bodyPost_ret (v := .tuple #[.string ⟨#[]⟩, .bool false]) (by simp [results, Try.results8, go_sem]) rfl ⟨rfl, Ch.below (by (repeat (first | with_reducible assumption | with_reducible exact Ch.refl _ _ | with_reducible refine Ch.drew ?_ | with_reducible refine Ch.alloc ?_ _ | (with_reducible refine Ch.set' ?_ ?_; focus (first | (right; rfl; done) | (left; simp; done) | (left; simp; omega) | (left; omega) | (right; simp; done) | (right; simp; omega))))))⟩

set_option maxRecDepth 100000 in
set_option maxHeartbeats 4000000 in
theorem note_ok (step : Int) (v : ByteArray) (l : List Nat) (w : World) (h : noteF step v = some l) : Calls Try.prog 8 #[.int .i64 step, .string v] w fun e w' => e = .returned (.tuple #[.string (bS l), .bool true]) ∧ Below w.heap.size w w' := by
  have hn : 0 ≤ step ∧ step < 64 ∧ v.size ≤ 900 := by
    unfold noteF at h
    split at h
    · assumption
    · cases h
  have hl : l = encN step.toNat ++ (encN v.size ++ sB v) := by
    unfold noteF at h
    rw [if_pos hn] at h
    cases h
    rfl
  have hlt := noteF_lt h
  obtain ⟨n, rfl⟩ : ∃ n : Nat, step = (n : Int) := ⟨step.toNat, by omega⟩
  rw [Int.toNat_natCast] at hl
  have t0 : decide ((n : Int) < 0) = false := by simp
  have t1 : decide (64 ≤ (n : Int)) = false := by simp; omega
  have t2 : decide ((900 : Int) < (v.size : Int)) = false := by simp; omega
  have HE := Lib.hid (enc_ok w.heap.size w.heap.size (.slice none 0 0) [] n (w.alloc (.cells #[.int .i64 (n : Int)] 3)) (Blk.new w _ _) (BRow.nil _ _) (by simp) (by omega) (by simp))
  have HC0 := Lib.hid ((Ch.refl (fun _ => False) w).alloc (.cells #[.int .i64 (n : Int)] 3))
  have HL := Lib.hid hl
  have HLT := Lib.hid hlt
  have hv := hn.2.2
  have hen : (encN n).length ≤ 9 := encN_len 8 n (by omega)
  clear h hn hl hlt
  go_enter Try.func8, Try.ntmps8
  go_wp2_with fail
  refine HE.out.mono ?_
  rintro e w1 ⟨v1, rfl, R1, _, c1⟩
  rw [List.nil_append] at R1
  have C1 := HC0.out.step c1 (fun k _ e => by simp [Value.ownBlock] at e)
  have HC1 := Lib.hid C1
  have HR1 := Lib.hid R1
  have HT := Lib.hid (text_ok w.heap.size v1 (encN n) v w1 R1 C1.size (by omega) (by omega))
  clear HE R1 c1 C1 HC0
  go_wp2_with fail
  refine HT.out.mono ?_
  rintro e w2 ⟨v2, rfl, R2, c2⟩
  have HC2 := Lib.hid (HC1.out.step c2 (fun k hk e => by have := HR1.out.own k e; omega))
  have HR2 := Lib.hid R2
  have hstr := brow_string R2 (by rw [← HL.out]; exact HLT.out)
  rw [← HL.out] at hstr
  clear HT R2 c2 HC1 HR1
  go_wp2_with fail
  exact bodyPost_ret (v := .tuple #[.string (bS l), .bool true]) (by simp [results, Try.results8, go_sem]) rfl ⟨rfl, HC2.out.below⟩

/-- What any data says. -/
def parseF (l : List Nat) : Option (Nat × List Nat) :=
  if (textE (numE 0 63 l).2.2 900 (l.drop (numE 0 63 l).2.1)).2.2 = 0 ∧ (numE 0 63 l).2.1 + (textE (numE 0 63 l).2.2 900 (l.drop (numE 0 63 l).2.1)).2.1 = l.length then some ((numE 0 63 l).1, (textE (numE 0 63 l).2.2 900 (l.drop (numE 0 63 l).2.1)).1) else none
def parseV (l : List Nat) : Value := match parseF l with
  | some (n, t) => .tuple #[.int .i64 (n : Nat), .string (bS t), .bool true]
  | none => .tuple #[.int .i64 0, .string ⟨#[]⟩, .bool false]

set_option maxRecDepth 100000 in
set_option maxHeartbeats 4000000 in
theorem parse_any (s : ByteArray) (w : World) (hs : s.size ≤ 140737488351232) : Calls Try.prog 10 #[.string s] w fun e w' => e = .returned (parseV (sB s)) ∧ Below w.heap.size w w' := by
  obtain ⟨cap, w1, hconv, hrow, hb1⟩ := conv_bytes w s
  have hlen : (sB s).length ≤ 140737488351232 := by rw [sB_length]; exact hs
  have HN := Lib.hid (new_any _ cap (sB s) w1 hrow (by omega))
  have HC1 := Lib.hid (Ch.of_below (fun _ => False) hb1)
  have hml : (sB s).length ≤ maxLen := by unfold maxLen; omega
  obtain ⟨⟨n, c1, e1⟩, h1⟩ : ∃ x, numE 0 63 (sB s) = x := ⟨_, rfl⟩
  obtain ⟨⟨t, c2, e2⟩, h2⟩ : ∃ x, textE e1 900 ((sB s).drop c1) = x := ⟨_, rfl⟩
  have hp : parseF (sB s) = if e2 = 0 ∧ c1 + c2 = (sB s).length then some (n, t) else none := by unfold parseF; rw [h1]; simp only; rw [h2]
  have H1 := Lib.hid h1
  have H2 := Lib.hid h2
  have HP := Lib.hid hp
  clear hrow hb1 h1 h2 hp
  go_enter Try.func10, Try.ntmps10
  go_wp2_with fail
  refine HN.out.mono ?_
  rintro e w3 ⟨r, g, rfl, D3, hr, hg, hb3⟩
  have HC3 := Lib.hid (HC1.out.call hb3)
  have HM := Lib.hid (num_any r g _ 0 0 63 w3 D3 (sB_lt s) hml)
  have hsz1 := HC1.out.size
  clear HN D3 hb3 HC1 hconv
  go_wp2_with fail
  refine HM.out.mono ?_
  intro x w4 hpost
  obtain ⟨rfl, D4, c4⟩ := hpost.at (v := n) (c := c1) (e2 := e1) (by rw [List.drop_zero]; exact H1.out)
  rw [Nat.zero_add] at D4
  have HC4 := Lib.hid (HC3.out.step c4 (fun k hk e => by omega))
  have HT := Lib.hid (rtext_any r g _ c1 e1 900 w4 D4 (sB_lt s) hml)
  clear HM hpost D4 c4 HC3
  go_wp2_with fail
  refine HT.out.mono ?_
  intro x w5 hpost
  obtain ⟨rfl, D5, c5⟩ := hpost.at H2.out
  have HC5 := Lib.hid (HC4.out.step c5 (fun k hk e => by omega))
  have HE := Lib.hid (end_any r g _ _ e2 w5 D5)
  clear HT hpost D5 c5 HC4
  by_cases hok : e2 = 0 ∧ c1 + c2 = (sB s).length
  · have hv : parseV (sB s) = .tuple #[.int .i64 (n : Nat), .string (bS t), .bool true] := by unfold parseV; rw [HP.out, if_pos hok]
    have HE2 := HE.out
    rw [if_pos hok.1, if_pos hok.2] at HE2
    have HE2 := Lib.hid HE2
    have HV := Lib.hid hv
    clear hok hv HE
    go_wp2_with fail
    refine HE2.out.mono ?_
    rintro e w6 ⟨rfl, hb6⟩
    go_wp2_with fail
    exact bodyPost_ret (v := .tuple #[.int .i64 (n : Nat), .string (bS t), .bool true]) (by simp [results, Try.results10, go_sem]) rfl ⟨by rw [HV.out], (HC5.out.call hb6).below⟩
  · have hv : parseV (sB s) = .tuple #[.int .i64 0, .string ⟨#[]⟩, .bool false] := by unfold parseV; rw [HP.out, if_neg hok]
    obtain ⟨E, hE, hE2⟩ : ∃ E, E = (if e2 = 0 then (if c1 + c2 = (sB s).length then 0 else 22) else e2) ∧ (E == 0) = false := by
      refine ⟨_, rfl, ?_⟩
      split
      · rename_i h0
        rw [if_neg (fun h => hok ⟨h0, h⟩)]
        rfl
      · rename_i h0
        simpa using h0
    have hE3 : (E != 0) = true := by unfold bne; rw [hE2]; rfl
    have HE2 := HE.out
    rw [← hE] at HE2
    have HE2 := Lib.hid HE2
    have HV := Lib.hid hv
    clear hok hv hE HE
    go_wp2_with fail
    refine HE2.out.mono ?_
    rintro e w6 ⟨rfl, hb6⟩
    go_wp2_with fail
    exact bodyPost_ret (v := .tuple #[.int .i64 0, .string ⟨#[]⟩, .bool false]) (by simp [results, Try.results10, go_sem]) rfl ⟨by rw [HV.out], (HC5.out.call hb6).below⟩
end Go.Proofs.Ytoknpcohhnlncaa
