/- FlowParts: an empty log, and who is refused. -/
import Derived.Test.YtoknpcohhnlncaaFlowP
set_option linter.unusedVariables false
set_option linter.unusedSimpArgs false
namespace Go.Proofs.Ytoknpcohhnlncaa
open Go.RowKit

set_option maxRecDepth 100000 in
set_option maxHeartbeats 8000000 in
theorem parts_nil (n : Int) (a : Option Addr) (cap : Nat) (x : ByteArray) (w : World) (h1 : 1 ≤ n) (h2 : n ≤ 64) (hx : x.size ≤ 2000) :
    Calls Try.prog 6 #[.int .i64 n, .slice a 0 cap, .string x] w fun e w' => e = .returned (.bool true) ∧ Below w.heap.size w w' := by
  have HFA : ∀ w : World, Calls Try.prog 12 #[.int .i64 n, .slice a 0 cap] w (FoldPost n [] w) := fun w => fold_ok n a cap [] w h1 h2 (fun i x h => by simp at h) (by simp) (by simp)
  have HWA : ∀ w : World, Calls Try.prog 13 #[.slice a 0 cap] w fun e w' => (∃ b, e = .returned (.bool b)) ∧ Below w.heap.size w w' := fun w => few_any a cap [] w (fun i x h => by simp at h) (by simp)
  have HF1 := Lib.hid HFA
  have HFW := Lib.hid HWA
  have t0 : decide ((2000 : Int) < (x.size : Int)) = false := by simp; omega
  have t0' : decide (2000 < x.size) = false := by simp; omega
  clear HFA HWA
  go_enter Try.func6, Try.ntmps6
  go_wp2_with fail
  refine (HF1.out w).mono ?_
  rintro e w1 ⟨s, vb, rfl, S1, hs1, hv1, hb1⟩
  have KS1 := Lib.hid S1
  have KV1 := Lib.hid hv1
  have KC1 := Lib.hid (Ch.of_below (fun _ => False) hb1)
  clear S1 hb1 hv1
  go_wp2_with fail
  refine (HFW.out w1).mono ?_
  rintro e w2 ⟨⟨b, rfl⟩, hb2⟩
  have KS2 := Lib.hid (KS1.out.below hb2)
  have KC2 := Lib.hid (KC1.out.call hb2)
  clear HFW hb2 KS1 KC1
  cases b with
  | false =>
    go_wp2_with fail
    refine (alive_any _).mono ?_
    rintro e w3 ⟨rfl, hb3⟩
    go_wp2_with fail
    go_ret
    exact ⟨rfl, (KC2.out.call hb3).below⟩
  | true =>
    go_wp2_with fail
    refine (HF1.out w2).mono ?_
    rintro e w3 ⟨t, vb2, rfl, S3, ht3, hv3, hb3⟩
    have KT3 := Lib.hid S3
    have KV3 := Lib.hid hv3
    have KS3 := Lib.hid (KS2.out.below hb3)
    have HB3 := Lib.hid (Ch.of_below (fun _ => False) hb3)
    clear HF1 S3 hv3 hb3
    go_wp2_with fail
    go_loopw [64] (fun v64 wi => PartsIn w2 t n [] [] v64 wi) (fun i _ => 0 - (intOf i).toNat)
    case atStart => exact ⟨0, vb2, Nat.zero_le _, rfl, KT3.out, KV3.out, HB3.out⟩
    case round =>
      obtain ⟨j, vb3, hj, rfl, S5, hv5, C5⟩ := hrel
      obtain rfl : j = 0 := by simpa using hj
      have KT := Lib.hid S5
      have KV := Lib.hid hv5
      have KC := Lib.hid C5
      clear S5 hv5 C5 KT3 KV3 HB3 KS3
      · have HV := Lib.hid (show foldF n [] ([] : List ByteArray) = foldF n [] [] from rfl)
        have KT2 := KT.out
        rw [show ([] : List ByteArray).take 0 = [] from rfl] at KT2
        obtain ⟨V, hV⟩ : ∃ V, V = foldF n [] [] := ⟨_, rfl⟩
        have KSR := KS2.out.below KC.out.below
        rw [← hV] at KT2 KSR
        have KT := Lib.hid KT2
        have KS := Lib.hid KSR
        have hsmV := KSR.small
        have D1 := Lib.hid (done_any s vb w.heap.size n V wr KSR)
        have KC4 := Lib.hid (KC2.out.trans KC.out)
        clear KT2 KSR hV HV KS2
        go_wp2_with fail
        refine D1.out.mono ?_
        rintro e w7 ⟨rfl, hb7⟩
        have D2 := Lib.hid (done_any t vb3 w2.heap.size n V w7 (KT.out.below hb7))
        have KS7 := Lib.hid (KS.out.below hb7)
        have KC7 := Lib.hid (KC4.out.call hb7)
        clear D1 hb7 KC4 KS KT
        go_wp2_with fail
        refine D2.out.mono ?_
        rintro e w8 ⟨rfl, hb8⟩
        have KS8 := Lib.hid (KS7.out.below hb8)
        have KC8 := Lib.hid (KC7.out.call hb8)
        have D3 := Lib.hid (done_any s vb w.heap.size n V w8 KS8.out)
        clear D2 hb8 KC7 KS7
        go_wp2_with fail
        refine D3.out.mono ?_
        rintro e w9 ⟨rfl, hb9⟩
        have KS9 := Lib.hid (KS8.out.below hb9)
        have KC9 := Lib.hid (KC8.out.call hb9)
        have OF := offer_any s vb w.heap.size n V x w9 KS9.out (by unfold maxLen; omega)
        unfold offerV at OF
        clear D3 hb9 KC8 KS8
        by_cases hfull : n ≤ V.length
        · rw [if_pos hfull] at OF
          have OF := Lib.hid OF
          clear hfull
          go_wp2_with fail
          refine OF.out.mono ?_
          rintro e w10 ⟨rfl, hb10⟩
          go_wp2_with fail
          refine (alive_any _).mono ?_
          rintro e w11 ⟨rfl, hb11⟩
          go_wp2_with fail
          go_ret
          exact ⟨rfl, ((KC9.out.call hb10).call hb11).below⟩
        · rw [if_neg hfull] at OF
          cases hno : noteF V.length x with
          | none =>
            rw [hno] at OF
            have OF := Lib.hid OF
            clear hfull hno
            go_wp2_with fail
            refine OF.out.mono ?_
            rintro e w10 ⟨rfl, hb10⟩
            go_wp2_with fail
            refine (alive_any _).mono ?_
            rintro e w11 ⟨rfl, hb11⟩
            go_wp2_with fail
            go_ret
            exact ⟨rfl, ((KC9.out.call hb10).call hb11).below⟩
          | some l =>
            rw [hno] at OF
            have OF := Lib.hid OF
            have HAD := Lib.hid (add_note hno (by omega : (V.length : Int) < n))
            have HAG := Lib.hid (add_again (n := n) hno)
            have hls : (bS l).size ≤ 140737488351232 := by
              have h5 := (parse_note hno).2.2.2
              have h6 : l = encN V.length ++ (encN x.size ++ sB x) := by
                unfold noteF at hno
                split at hno
                · cases hno; simp
                · cases hno
              have h7 := encN_len 8 V.length (by omega)
              have h8 := encN_len 8 x.size (by omega)
              rw [bS_size, h6, List.length_append, List.length_append, sB_length]
              omega
            have HVA := Lib.hid (valueV_at (vals := V ++ [x]) (i := V.length) (x := x) (by simp))
            have hVl : (V ++ [x]).length = V.length + 1 := by simp
            have HVL := Lib.hid hVl
            clear hfull hno hVl
            go_wp2_with fail
            refine OF.out.mono ?_
            rintro e w10 ⟨rfl, hb10⟩
            have KC10 := Lib.hid (KC9.out.call hb10)
            have A1 := Lib.hid (add_any s vb w.heap.size n V (bS l) w10 (KS9.out.below hb10) KC10.out.size h2 hls)
            clear OF hb10 KC9 KS9
            go_wp2_with fail
            refine A1.out.mono ?_
            intro e w11 hpost
            obtain ⟨vb11, rfl, S11, hv11, c11⟩ := hpost.at HAD.out
            have KS11 := Lib.hid S11
            have KV11 := Lib.hid (show ∀ g, vb11 = some g → w.heap.size ≤ g from fun g e => (hv11 g e).elim (fun h => KV1.out g h) (fun h => Nat.le_trans KC10.out.size h))
            have KC11 := Lib.hid (KC10.out.step c11 (fun k hk e => e.elim (fun e => by omega) (fun e => by have := KV1.out k e; omega)))
            have V1 := value_any s vb11 w.heap.size n _ (V.length : Int) w11 S11
            rw [HVA.out] at V1
            have V1 := Lib.hid V1
            clear A1 hpost S11 hv11 c11 KC10
            go_wp2_with fail
            refine V1.out.mono ?_
            rintro e w12 ⟨rfl, hb12⟩
            have KS12 := Lib.hid (KS11.out.below hb12)
            have KC12 := Lib.hid (KC11.out.call hb12)
            clear V1 hb12 KS11 KC11
            go_wp2_with fail
            refine (alive_any _).mono ?_
            rintro e w13 ⟨rfl, hb13⟩
            have KS13 := Lib.hid (KS12.out.below hb13)
            have KC13 := Lib.hid (KC12.out.call hb13)
            have D4 := done_any s vb11 w.heap.size n _ w13 KS13.out
            rw [HVL.out] at D4
            have D4 := Lib.hid D4
            clear hb13 KS12 KC12
            go_wp2_with fail
            refine D4.out.mono ?_
            rintro e w14 ⟨rfl, hb14⟩
            have KC14 := Lib.hid (KC13.out.call hb14)
            have A2 := Lib.hid (add_any s vb11 w.heap.size n _ (bS l) w14 (KS13.out.below hb14) KC14.out.size h2 hls)
            clear D4 hb14 KS13 KC13
            go_wp2_with fail
            refine A2.out.mono ?_
            intro e w15 hpost
            obtain ⟨vb15, rfl, S15, hv15, c15⟩ := hpost.at HAG.out
            have KC15 := Lib.hid (KC14.out.step c15 (fun k hk e => e.elim (fun e => by omega) (fun e => by have := KV11.out k e; omega)))
            clear A2 hpost S15 hv15 c15
            go_wp2_with fail
            go_ret
            exact ⟨rfl, KC15.out.below⟩
set_option maxRecDepth 100000 in
set_option maxHeartbeats 4000000 in
theorem parts_bad (n : Int) (a : Option Addr) (len cap : Nat) (x : ByteArray) (w : World) (h : n < 1 ∨ 64 < n) (hl : len ≤ 140737488351232) :
    Calls Try.prog 6 #[.int .i64 n, .slice a len cap, .string x] w fun e w' => e = .returned (.bool true) ∧ Below w.heap.size w w' := by
  have HF := Lib.hid (fold_bad n a len cap w h)
  obtain ⟨m, hm⟩ : ∃ m, m = len / 2 := ⟨_, rfl⟩
  have hdiv : Int.tdiv (len : Int) 2 = (m : Int) := by rw [Int.tdiv_eq_ediv_of_nonneg (by omega), hm]; omega
  have hw64 : wrap64 (m : Int) = (m : Int) := by unfold wrap64; omega
  clear h hm
  go_enter Try.func6, Try.ntmps6
  go_wp2_with fail
  refine HF.out.mono ?_
  rintro e w1 ⟨rfl, hb1⟩
  go_wp2_with fail
  refine (alive_any _).mono ?_
  rintro e w3 ⟨rfl, hb3⟩
  go_wp2_with fail
  go_ret
  exact ⟨rfl, ((Ch.of_below (fun _ => False) hb1).call hb3).below⟩

set_option maxRecDepth 100000 in
set_option maxHeartbeats 4000000 in
theorem parts_long (n : Int) (a : Option Addr) (cap : Nat) (log : List ByteArray) (x : ByteArray) (w : World) (h1 : 1 ≤ n) (h2 : n ≤ 64) (ro : RowAt w a 1 oS log) (hd : ∀ d ∈ log, d.size ≤ 140737488351232) (hl : log.length ≤ 140737488351232) (hx : 2000 < x.size) (hx2 : x.size ≤ 140737488351232) :
    Calls Try.prog 6 #[.int .i64 n, .slice a log.length cap, .string x] w fun e w' => e = .returned (.bool true) ∧ Below w.heap.size w w' := by
  have HF1 := Lib.hid (fold_ok n _ cap log w h1 h2 ro hd hl)
  have HRO := Lib.hid ro
  have t0 : decide ((2000 : Int) < (x.size : Int)) = true := by simp; omega
  obtain ⟨m, hm⟩ : ∃ m, m = log.length / 2 := ⟨_, rfl⟩
  have hdiv : Int.tdiv (log.length : Int) 2 = (m : Int) := by rw [Int.tdiv_eq_ediv_of_nonneg (by omega), hm]; omega
  have hw64 : wrap64 (m : Int) = (m : Int) := by unfold wrap64; omega
  clear ro hd hm
  go_enter Try.func6, Try.ntmps6
  go_wp2_with fail
  refine HF1.out.mono ?_
  rintro e w1 ⟨s, vb, rfl, S1, hs1, hv1, hb1⟩
  have KC1 := Lib.hid (Ch.of_below (fun _ => False) hb1)
  have HFW := Lib.hid (few_any _ cap log w1 (HRO.out.below hb1) hl)
  clear HF1 S1 hb1 hv1
  go_wp2_with fail
  refine HFW.out.mono ?_
  rintro e w2 ⟨⟨b, rfl⟩, hb2⟩
  have KC2 := Lib.hid (KC1.out.call hb2)
  clear HFW hb2 KC1
  cases b with
  | false =>
    go_wp2_with fail
    refine (alive_any _).mono ?_
    rintro e w3 ⟨rfl, hb3⟩
    go_wp2_with fail
    go_ret
    exact ⟨rfl, (KC2.out.call hb3).below⟩
  | true =>
    go_wp2_with fail
    refine (alive_any _).mono ?_
    rintro e w3 ⟨rfl, hb3⟩
    go_wp2_with fail
    go_ret
    exact ⟨rfl, (KC2.out.call hb3).below⟩

/-- FlowParts answers true. -/
theorem parts_row (n : Int) (a : Option Addr) (cap : Nat) (log : List ByteArray) (x : ByteArray) (w : World) (_ : (Lit.int .i64 n).wf = true) (hlc : log.length ≤ cap) (ro : RowAt w a 1 oS log) (hd : ∀ d ∈ log, d.size ≤ 140737488351232) (hl : log.length * 16 ≤ 140737488351232) (hx : x.size ≤ 140737488351232) :
    Calls Try.prog 6 #[.int .i64 n, .slice a log.length cap, .string x] w fun e w' => e = .returned (.bool true) ∧ Below w.heap.size w w' := by
  by_cases hn : 1 ≤ n ∧ n ≤ 64
  · by_cases h2 : x.size ≤ 2000
    · by_cases hpos : 0 < log.length
      · obtain ⟨d, hp⟩ : ∃ d, log[0]? = some d := ⟨_, List.getElem?_eq_getElem hpos⟩
        obtain ⟨b0, off, rfl, _, _⟩ := ro 0 d hp
        exact parts_main n b0 off cap log x w hn.1 hn.2 hlc ro hd (by omega) hpos h2
      · obtain rfl : log = [] := List.length_eq_zero_iff.1 (by omega)
        exact parts_nil n a cap x w hn.1 hn.2 h2
    · exact parts_long n a cap log x w hn.1 hn.2 ro hd (by omega) (by omega) hx
  · exact parts_bad n a log.length cap x w (by omega) (by omega)
end Go.Proofs.Ytoknpcohhnlncaa
