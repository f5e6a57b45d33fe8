/- flow's Result; few and alive of the flow laws. -/
import Derived.Test.YtoknpcohhnlncaaFlowF
set_option linter.unusedVariables false
set_option linter.unusedSimpArgs false
namespace Go.Proofs.Ytoknpcohhnlncaa
open Go.RowKit

def resultV (n : Int) (vals : List ByteArray) : Value := if (vals.length : Int) < n then .tuple #[.string ⟨#[]⟩, .bool false] else valueV vals (n - 1)
set_option maxRecDepth 100000 in
set_option maxHeartbeats 4000000 in
theorem result_any (s : Nat) (vb : Option Nat) (base : Nat) (n : Int) (vals : List ByteArray) (w : World) (h : St w s vb base n vals) (hn0 : 0 ≤ n) (hn1 : n ≤ 64) :
    Calls Try.prog 20 #[.pointer (some ⟨s, 0, none⟩)] w fun e w' => e = .returned (resultV n vals) ∧ Below w.heap.size w w' := by
  obtain ⟨v, h1⟩ := h.boxLater
  obtain ⟨q1, q2⟩ := h1.laterCells
  have HD := Lib.hid (fun x : Later w => done_any s vb base n vals x.w (h.below x.h))
  have HS := Lib.hid h
  have hsm := h.small
  clear h h1
  by_cases hn : (vals.length : Int) < n
  · have t0 : decide ((vals.length : Int) < n) = true := by simpa using hn
    have hv : resultV n vals = .tuple #[.string ⟨#[]⟩, .bool false] := by unfold resultV; rw [if_pos hn]
    have HV := Lib.hid hv
    clear hn hv
    go_enter Try.func20, Try.ntmps20
    go_wp2_with fail
    refine wp_region_later (by kernel_rfl) (by kernel_rfl) ?_
    repeat (go_big_quiet_step (first | (go_at_call 14; exact Calls.later (HD.out _))))
    refine wpQuiet_nil ?_
    rintro _ ⟨x, rfl⟩
    go_wp2_with fail
    exact bodyPost_ret (v := .tuple #[.string ⟨#[]⟩, .bool false]) (by simp [results, Try.results20, go_sem]) rfl ⟨by rw [HV.out], x.h⟩
  · have t0 : decide ((vals.length : Int) < n) = false := by simpa using hn
    obtain ⟨y, b, hy⟩ : ∃ y b, valueV vals (n - 1) = .tuple #[.string y, .bool b] := by unfold valueV; split <;> exact ⟨_, _, rfl⟩
    have hv : resultV n vals = .tuple #[.string y, .bool b] := by unfold resultV; rw [if_neg hn, hy]
    have HV := Lib.hid hv
    have HY := Lib.hid hy
    clear hn hv hy
    go_enter Try.func20, Try.ntmps20
    go_wp2_with fail
    refine wp_region_later (by kernel_rfl) (by kernel_rfl) ?_
    repeat (go_big_quiet_step (first | (go_at_call 14; exact Calls.later (HD.out _))))
    refine wpQuiet_nil ?_
    rintro _ ⟨x, rfl⟩
    have HVA := value_any s vb base n vals (n - 1) x.w (HS.out.below x.h)
    rw [HY.out] at HVA
    have HVA := Lib.hid HVA
    clear HD
    go_wp2_with fail
    refine HVA.out.mono ?_
    rintro e w3 ⟨rfl, hb3⟩
    have HC3 := Lib.hid (x.h.trans (hb3.mono x.h.size))
    go_wp2_with fail
    exact bodyPost_ret (v := .tuple #[.string y, .bool b]) (by simp [results, Try.results20, go_sem]) rfl ⟨by rw [HV.out], HC3.out⟩

/-- few's loop: whatever it counts. -/
def FewIn (w : World) (n : Nat) (v3 v8 : Value) (wi : World) : Prop := ∃ (j : Nat) (x : Int), j ≤ n ∧ v8 = .int .i64 (j : Nat) ∧ x = intOf v3 ∧ v3 = .int .i64 x ∧ Ch (fun _ => False) w wi
set_option maxRecDepth 100000 in
set_option maxHeartbeats 4000000 in
theorem few_any (a : Option Addr) (cap : Nat) (log : List ByteArray) (w : World) (ro : RowAt w a 1 oS log) (hl : log.length ≤ 140737488351232) :
    Calls Try.prog 13 #[.slice a log.length cap] w fun e w' => (∃ b, e = .returned (.bool b)) ∧ Below w.heap.size w w' := by
  have HRO := Lib.hid ro
  clear ro
  go_enter Try.func13, Try.ntmps13
  go_wp2_with fail
  go_loopw [3, 8] (fun v3 v8 wi => FewIn w log.length v3 v8 wi) (fun _ i _ => log.length - (intOf i).toNat)
  case atStart => exact ⟨0, 0, Nat.zero_le _, rfl, rfl, rfl, Ch.refl _ _⟩
  case round =>
    obtain ⟨j, x, hj, rfl, hx, rfl, C5⟩ := hrel
    have KC := Lib.hid C5
    clear C5 hx
    by_cases hlt : j < log.length
    · have ht : decide ((j : Int) < (log.length : Int)) = true := by simpa using hlt
      have ht2 : decide (log.length ≤ j) = false := by simpa using hlt
      obtain ⟨d, hp⟩ : ∃ d, log[j]? = some d := ⟨_, List.getElem?_eq_getElem hlt⟩
      obtain ⟨b0, off, rfl, hb0, hcells⟩ := HRO.out j d hp
      have q0 : wr.cell? ⟨b0, off + j, none⟩ = some (.string d) := by
        have := (KC.out.below.cell (p := ⟨b0, _, none⟩) hb0).trans (hcells 0 _ rfl)
        simpa using this
      clear hcells
      go_wp2_with fail
      go_roundw
      case rel => exact ⟨j + 1, _, hlt, by simp, rfl, rfl, KC.out⟩
      case measure => simp only [intOf]; omega
    · have ht : decide ((j : Int) < (log.length : Int)) = false := by simpa using hlt
      have ht2 : decide (log.length ≤ j) = true := by simp; omega
      by_cases h1 : (log.length : Int) ≤ 100
      · have t1 : decide ((log.length : Int) ≤ 100) = true := by simpa using h1
        clear h1
        go_wp2_with fail
        go_ret
        exact ⟨⟨_, rfl⟩, KC.out.below⟩
      · have t1 : decide ((log.length : Int) ≤ 100) = false := by simpa using h1
        clear h1
        go_wp2_with fail
        go_ret
        exact ⟨⟨_, rfl⟩, KC.out.below⟩

theorem note_a : noteF 0 ⟨#[97]⟩ = some [0, 1, 97] := by unfold noteF; rw [if_pos (by decide), show (⟨#[97]⟩ : ByteArray).size = 1 from rfl]; simp [encN_small, sB]
theorem note_b : noteF 0 ⟨#[98]⟩ = some [0, 1, 98] := by unfold noteF; rw [if_pos (by decide), show (⟨#[98]⟩ : ByteArray).size = 1 from rfl]; simp [encN_small, sB]
theorem note_c : noteF 1 ⟨#[99]⟩ = some [1, 1, 99] := by unfold noteF; rw [if_pos (by decide), show (⟨#[99]⟩ : ByteArray).size = 1 from rfl]; simp [encN_small, sB]
theorem parse_a : parseF (sB (bS [0, 1, 97])) = some (0, [97]) := by rw [sB_bS (by simp)]; decide
theorem parse_b : parseF (sB (bS [0, 1, 98])) = some (0, [98]) := by rw [sB_bS (by simp)]; decide
theorem parse_c : parseF (sB (bS [1, 1, 99])) = some (1, [99]) := by rw [sB_bS (by simp)]; decide
theorem add_1 : addF 2 [] (sB (bS [1, 1, 99])) = ([], false) := by unfold addF; rw [parse_c]; rfl
theorem add_2 : addF 2 [] (sB (bS [0, 1, 97])) = ([bS [97]], true) := by unfold addF; rw [parse_a]; rfl
theorem add_3 : addF 2 [bS [97]] (sB (bS [0, 1, 98])) = ([bS [97]], false) := by unfold addF; rw [parse_b]; rfl
theorem add_4 : addF 2 [bS [97]] (sB (bS [1, 1, 99])) = ([bS [97], bS [99]], true) := by unfold addF; rw [parse_c]; rfl
theorem next_1 : nextV 2 [bS [97]] = .tuple #[.int .i64 1, .string ⟨#[97]⟩, .bool true] := by unfold nextV; rw [if_neg (by decide)]; rfl
theorem result_1 : resultV 2 [bS [97], bS [99]] = .tuple #[.string ⟨#[99]⟩, .bool true] := by unfold resultV; rw [if_neg (by decide)]; unfold valueV; rw [if_pos (by decide)]; rfl

theorem St.move {w w1 : World} {s : Nat} {vb : Option Nat} {base : Nat} {n : Int} {vals : List ByteArray} (h : St w s vb base n vals) (hb : Below w.heap.size w w1) : St w1 s vb base n vals := h.below hb

set_option maxRecDepth 100000 in
set_option maxHeartbeats 8000000 in
theorem alive_any (w : World) : Calls Try.prog 7 #[] w fun e w' => e = .returned (.bool true) ∧ Below w.heap.size w w' := by
  have n1 := Lib.hid (fun w2 => note_ok 0 ⟨#[97]⟩ [0, 1, 97] w2 note_a)
  have n2 := Lib.hid (fun w2 => note_ok 0 ⟨#[98]⟩ [0, 1, 98] w2 note_b)
  have n3 := Lib.hid (fun w2 => note_ok 1 ⟨#[99]⟩ [1, 1, 99] w2 note_c)
  have HF : Calls Try.prog 12 #[.int .i64 2, .slice none 0 0] w (FoldPost 2 [] w) := fold_ok 2 none 0 [] w (by decide) (by decide) (fun i x h => by simp at h) (by simp) (by simp)
  have HF := Lib.hid HF
  go_enter Try.func7, Try.ntmps7
  go_wp2_with fail
  refine HF.out.mono ?_
  rintro e w1 ⟨s, vb, rfl, S1, hs1, hv1, hb1⟩
  have KS1 := Lib.hid S1
  have KV1 := Lib.hid hv1
  have KC1 := Lib.hid (Ch.of_below (fun _ => False) hb1)
  clear HF S1 hb1 hv1
  go_wp2_with fail
  refine (n1.out w1).mono ?_
  rintro e w2 ⟨rfl, hb2⟩
  have KS2 := Lib.hid (KS1.out.below hb2)
  have KC2 := Lib.hid (KC1.out.call hb2)
  clear KS1 KC1 hb2
  go_wp2_with fail
  refine (n2.out w2).mono ?_
  rintro e w3 ⟨rfl, hb3⟩
  have KS3 := Lib.hid (KS2.out.below hb3)
  have KC3 := Lib.hid (KC2.out.call hb3)
  clear KS2 KC2 hb3
  go_wp2_with fail
  refine (n3.out w3).mono ?_
  rintro e w4 ⟨rfl, hb4⟩
  have KS4 := Lib.hid (KS3.out.below hb4)
  have KC4 := Lib.hid (KC3.out.call hb4)
  have A1 := Lib.hid (add_any s vb w.heap.size 2 [] (bS [1, 1, 99]) w4 KS4.out KC4.out.size (by decide) (by rw [bS_size]; simp))
  clear KS3 KC3 hb4
  go_wp2_with fail
  refine A1.out.mono ?_
  intro e w5 hpost
  obtain ⟨vb2, rfl, S5, hv5, c5⟩ := hpost.at add_1
  have KV5 := Lib.hid (show ∀ g, vb2 = some g → w.heap.size ≤ g from fun g e => (hv5 g e).elim (fun h => KV1.out g h) (fun h => Nat.le_trans KC4.out.size h))
  have KC5 := Lib.hid (KC4.out.step c5 (fun k hk e => e.elim (fun e => by omega) (fun e => by have := KV1.out k e; omega)))
  have A2 := Lib.hid (add_any s vb2 w.heap.size 2 [] (bS [0, 1, 97]) w5 S5 KC5.out.size (by decide) (by rw [bS_size]; simp))
  clear A1 hpost S5 hv5 c5 KC4 KV1 KS4
  go_wp2_with fail
  refine A2.out.mono ?_
  intro e w6 hpost
  obtain ⟨vb3, rfl, S6, hv6, c6⟩ := hpost.at add_2
  have KV6 := Lib.hid (show ∀ g, vb3 = some g → w.heap.size ≤ g from fun g e => (hv6 g e).elim (fun h => KV5.out g h) (fun h => Nat.le_trans KC5.out.size h))
  have KC6 := Lib.hid (KC5.out.step c6 (fun k hk e => e.elim (fun e => by omega) (fun e => by have := KV5.out k e; omega)))
  have A3 := Lib.hid (add_any s vb3 w.heap.size 2 [bS [97]] (bS [0, 1, 98]) w6 S6 KC6.out.size (by decide) (by rw [bS_size]; simp))
  clear A2 hpost S6 hv6 c6 KC5 KV5
  go_wp2_with fail
  refine A3.out.mono ?_
  intro e w7 hpost
  obtain ⟨vb4, rfl, S7, hv7, c7⟩ := hpost.at add_3
  have KS7 := Lib.hid S7
  have KV7 := Lib.hid (show ∀ g, vb4 = some g → w.heap.size ≤ g from fun g e => (hv7 g e).elim (fun h => KV6.out g h) (fun h => Nat.le_trans KC6.out.size h))
  have KC7 := Lib.hid (KC6.out.step c7 (fun k hk e => e.elim (fun e => by omega) (fun e => by have := KV6.out k e; omega)))
  have NX := next_any s vb4 w.heap.size 2 _ w7 S7
  rw [next_1] at NX
  have NX := Lib.hid NX
  clear A3 hpost S7 hv7 c7 KC6 KV6
  go_wp2_with fail
  refine NX.out.mono ?_
  rintro e w8 ⟨rfl, hb8⟩
  have KC8 := Lib.hid (KC7.out.call hb8)
  have A4 := Lib.hid (add_any s vb4 w.heap.size 2 [bS [97]] (bS [1, 1, 99]) w8 (KS7.out.below hb8) KC8.out.size (by decide) (by rw [bS_size]; simp))
  clear NX hb8 KC7 KS7
  go_wp2_with fail
  refine A4.out.mono ?_
  intro e w9 hpost
  obtain ⟨vb5, rfl, S9, hv9, c9⟩ := hpost.at add_4
  have KC9 := Lib.hid (KC8.out.step c9 (fun k hk e => e.elim (fun e => by omega) (fun e => by have := KV7.out k e; omega)))
  have RS := result_any s vb5 w.heap.size 2 _ w9 S9 (by decide) (by decide)
  rw [result_1] at RS
  have RS := Lib.hid RS
  clear A4 hpost S9 hv9 c9 KC8 KV7
  go_wp2_with fail
  refine RS.out.mono ?_
  rintro e w10 ⟨rfl, hb10⟩
  go_wp2_with fail
  go_ret
  exact ⟨rfl, (KC9.out.call hb10).below⟩
end Go.Proofs.Ytoknpcohhnlncaa
