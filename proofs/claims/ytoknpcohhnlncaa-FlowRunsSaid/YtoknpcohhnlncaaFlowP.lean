/- FlowParts: the walk. -/
import Derived.Test.YtoknpcohhnlncaaFlowL
set_option linter.unusedVariables false
set_option linter.unusedSimpArgs false
namespace Go.Proofs.Ytoknpcohhnlncaa
open Go.RowKit

/-- What was noted is read. -/
theorem parse_note {k : Int} {v : ByteArray} {l : List Nat} (h : noteF k v = some l) : parseF l = some (k.toNat, sB v) ∧ 0 ≤ k ∧ k < 64 ∧ v.size ≤ 900 := by
  unfold noteF at h
  split at h
  · rename_i hn
    cases h
    refine ⟨?_, hn⟩
    have h1 := numE_enc (m := k.toNat) (by omega) 63 (by omega) (encN v.size ++ sB v)
    have h2 := textE_enc (s := v) (by omega) 900 (by omega) []
    rw [List.append_nil] at h2
    unfold parseF
    rw [h1]
    simp only
    rw [List.drop_left, h2]
    simp only
    rw [if_pos ⟨by trivial, by simp [sB_length]⟩]
  · cases h
theorem add_note {n : Int} {vals : List ByteArray} {v : ByteArray} {l : List Nat} (h : noteF vals.length v = some l) (hn : (vals.length : Int) < n) : addF n vals (sB (bS l)) = (vals ++ [v], true) := by
  have hl := noteF_lt h
  obtain ⟨h1, h2, _, _⟩ := parse_note h
  unfold addF
  rw [sB_bS hl, h1]
  simp only
  rw [if_pos (by simp; omega), bS_sB]
theorem add_again {n : Int} {vals : List ByteArray} {v : ByteArray} {l : List Nat} (h : noteF vals.length v = some l) : addF n (vals ++ [v]) (sB (bS l)) = (vals ++ [v], false) := by
  have hl := noteF_lt h
  obtain ⟨h1, h2, _, _⟩ := parse_note h
  unfold addF
  rw [sB_bS hl, h1]
  simp only
  rw [if_neg (by simp)]
theorem RowAt.drop1 {w : World} {b off : Nat} {α : Type} {out : α → List Value} {xs : List α} (h : RowAt w (some ⟨b, off, none⟩) 1 out xs) (m : Nat) : RowAt w (some ⟨b, off + m, none⟩) 1 out (xs.drop m) := by
  intro i x hx
  rw [List.getElem?_drop] at hx
  obtain ⟨b2, off2, e, hb, hc⟩ := h (m + i) x hx
  cases e
  exact ⟨b, off + m, rfl, hb, fun j v hj => by rw [show off + m + (i * 1 + j) = off + ((m + i) * 1 + j) by omega]; exact hc j v hj⟩
theorem RowAt.take {w : World} {a : Option Addr} {sz : Nat} {α : Type} {out : α → List Value} {xs : List α} (h : RowAt w a sz out xs) (n : Nat) : RowAt w a sz out (xs.take n) := by
  intro i x hx
  rw [List.getElem?_take] at hx
  split at hx
  · exact h i x hx
  · cases hx
theorem valueV_at {vals : List ByteArray} {i : Nat} {x : ByteArray} (h : vals[i]? = some x) : valueV vals (i : Int) = .tuple #[.string x, .bool true] := by
  have hi := (List.getElem?_eq_some_iff.1 h).1
  unfold valueV
  rw [if_pos (by omega), Int.toNat_natCast, List.getD_eq_getElem?_getD, h]
  rfl

/-- The second state while the log's second half comes. -/
def PartsIn (w2 : World) (t : Nat) (n : Int) (vals more : List ByteArray) (v : Value) (wi : World) : Prop :=
  ∃ j vb, j ≤ more.length ∧ v = .int .i64 (j : Nat) ∧ St wi t vb w2.heap.size n (foldF n vals (more.take j)) ∧ (∀ g, vb = some g → w2.heap.size ≤ g) ∧ Ch (fun _ => False) w2 wi

set_option maxRecDepth 100000 in
set_option maxHeartbeats 8000000 in
theorem parts_main (n : Int) (b0 off cap : Nat) (log : List ByteArray) (x : ByteArray) (w : World) (h1 : 1 ≤ n) (h2 : n ≤ 64) (hlc : log.length ≤ cap) (ro : RowAt w (some ⟨b0, off, none⟩) 1 oS log) (hd : ∀ d ∈ log, d.size ≤ 140737488351232) (hl : log.length ≤ 140737488351232) (hpos : 0 < log.length) (hx : x.size ≤ 2000) :
    Calls Try.prog 6 #[.int .i64 n, .slice (some ⟨b0, off, none⟩) log.length cap, .string x] w fun e w' => e = .returned (.bool true) ∧ Below w.heap.size w w' := by
  have HF1 := Lib.hid (fold_ok n _ cap log w h1 h2 ro hd hl)
  have HRO := Lib.hid ro
  have HD := Lib.hid hd
  have t0 : decide ((2000 : Int) < (x.size : Int)) = false := by simp; omega
  have t0' : decide (2000 < x.size) = false := by simp; omega
  obtain ⟨m, hm⟩ : ∃ m, m = log.length / 2 := ⟨_, rfl⟩
  have hdiv : Int.tdiv (log.length : Int) 2 = (m : Int) := by rw [Int.tdiv_eq_ediv_of_nonneg (by omega), hm]; omega
  have hw64 : wrap64 (m : Int) = (m : Int) := by unfold wrap64; omega
  have hmc : m < cap := by omega
  have hml : m ≤ log.length := by omega
  have HM := Lib.hid hm
  clear ro hd hm
  go_enter Try.func6, Try.ntmps6
  go_wp2_with fail
  refine HF1.out.mono ?_
  rintro e w1 ⟨s, vb, rfl, S1, hs1, hv1, hb1⟩
  have KS1 := Lib.hid S1
  have KV1 := Lib.hid hv1
  have KC1 := Lib.hid (Ch.of_below (fun _ => False) hb1)
  have HFW := Lib.hid (few_any _ cap log w1 (HRO.out.below hb1) hl)
  clear HF1 S1 hb1 hv1
  go_wp2_with fail
  refine HFW.out.mono ?_
  rintro e w2 ⟨⟨b, rfl⟩, hb2⟩
  have KS2 := Lib.hid (KS1.out.below hb2)
  have KC2 := Lib.hid (KC1.out.call hb2)
  have HRO2 := HRO.out.below KC2.out.below
  clear HFW hb2 KS1 KC1
  cases b with
  | false =>
    go_wp2_with fail
    refine (alive_any _).mono ?_
    rintro e w3 ⟨rfl, hb3⟩
    go_wp2_with fail
    go_ret
    exact ⟨rfl, (KC2.out.call hb3).below⟩
  | true =>
    have HF2 := fold_ok n (some ⟨b0, off, none⟩) cap (log.take m) w2 h1 h2 (HRO2.take m) (fun d hd => HD.out d (List.mem_of_mem_take hd)) (by rw [List.length_take]; omega)
    rw [List.length_take, Nat.min_eq_left hml] at HF2
    have HF2 := Lib.hid HF2
    clear HRO2
    go_wp2_with fail
    refine HF2.out.mono ?_
    rintro e w3 ⟨t, vb2, rfl, S3, ht3, hv3, hb3⟩
    have KT3 := Lib.hid S3
    have KV3 := Lib.hid hv3
    have KS3 := Lib.hid (KS2.out.below hb3)
    have HB3 := Lib.hid (Ch.of_below (fun _ => False) hb3)
    have hv : foldF n (foldF n [] (log.take m)) (log.drop m) = foldF n [] log := by rw [← foldF_append, List.take_append_drop]
    have HV := Lib.hid hv
    have HROD := Lib.hid (HRO.out.drop1 m)
    have hmore : (log.drop m).length = log.length - m := List.length_drop
    obtain ⟨more, hmo⟩ : ∃ more, more = log.drop m := ⟨_, rfl⟩
    have hmlen : log.length - m = more.length := by rw [hmo, hmore]
    have HDM := Lib.hid (show ∀ d ∈ more, d.size ≤ 140737488351232 from fun d hd => HD.out d (by rw [hmo] at hd; exact List.mem_of_mem_drop hd))
    rw [← hmo] at HV HROD
    have hlm : more.length ≤ 140737488351232 := by omega
    have hmcap : decide (cap < m) = false := by simp; omega
    have hml2 : decide (log.length < m) = false := by simp; omega
    clear HF2 S3 hv3 hb3 HM hmo hmore hv
    go_wp2_with fail
    go_loopw [64] (fun v64 wi => PartsIn w2 t n (foldF n [] (log.take m)) more v64 wi) (fun i _ => more.length - (intOf i).toNat)
    case atStart => exact ⟨0, vb2, Nat.zero_le _, rfl, KT3.out, KV3.out, HB3.out⟩
    case round =>
      obtain ⟨j, vb3, hj, rfl, S5, hv5, C5⟩ := hrel
      have KT := Lib.hid S5
      have KV := Lib.hid hv5
      have KC := Lib.hid C5
      clear S5 hv5 C5 KT3 KV3 HB3 KS3
      by_cases hlt : j < more.length
      · have ht : decide ((j : Int) < (more.length : Int)) = true := by simpa using hlt
        have ht2 : decide (more.length ≤ j) = false := by simpa using hlt
        obtain ⟨d, hp⟩ : ∃ d, more[j]? = some d := ⟨_, List.getElem?_eq_getElem hlt⟩
        obtain ⟨b1, off1, e1, hb0, hcells⟩ := HROD.out j d hp
        cases e1
        have q0 : wr.cell? ⟨b0, off + m + j, none⟩ = some (.string d) := by
          have := ((KC2.out.trans KC.out).below.cell (p := ⟨b0, _, none⟩) hb0).trans (hcells 0 _ rfl)
          simpa using this
        have HF := Lib.hid (foldF_snoc n (foldF n [] (log.take m)) (more.take j) d)
        rw [show more.take j ++ [d] = more.take (j + 1) by rw [List.take_add_one, hp]; rfl] at HF
        obtain ⟨⟨vals2, ok⟩, ha⟩ : ∃ x, addF n (foldF n (foldF n [] (log.take m)) (more.take j)) (sB d) = x := ⟨_, rfl⟩
        have HA := Lib.hid (add_any t vb3 w2.heap.size n _ d wr KT.out KC.out.size h2 (HDM.out d (List.mem_of_getElem? hp)))
        have HAF := Lib.hid ha
        clear hcells ha
        go_wp2_with fail
        refine HA.out.mono ?_
        intro e w6 hpost
        obtain ⟨vb6, rfl, S6, hv6, c6⟩ := hpost.at HAF.out
        have HS6 := Lib.hid S6
        have HV6 := Lib.hid hv6
        have HC6 := Lib.hid (KC.out.step c6 (fun k hk e => by
          rcases e with e | e
          · omega
          · have := KV.out k e; omega))
        clear HA hpost S6 hv6 c6
        go_wp2_with fail
        go_roundw
        case rel => exact ⟨j + 1, vb6, hlt, by simp, by rw [HF.out, HAF.out]; exact HS6.out, fun g e => by
          rcases HV6.out g e with h | h
          · exact KV.out g h
          · exact Nat.le_trans KC.out.size h, HC6.out⟩
        case measure => simp only [intOf]; omega
      · have ht : decide ((j : Int) < (more.length : Int)) = false := by simpa using hlt
        have ht2 : decide (more.length ≤ j) = true := by simp; omega
        have KT2 := KT.out
        rw [show j = more.length by omega, List.take_length, HV.out] at KT2
        obtain ⟨V, hV⟩ : ∃ V, V = foldF n [] log := ⟨_, rfl⟩
        have KSR := KS2.out.below KC.out.below
        rw [← hV] at KT2 KSR
        have KT := Lib.hid KT2
        have KS := Lib.hid KSR
        have hsmV := KSR.small
        have D1 := Lib.hid (done_any s vb w.heap.size n V wr KSR)
        have KC4 := Lib.hid (KC2.out.trans KC.out)
        clear KT2 KSR hV HV KS2
        go_wp2_with fail
        refine D1.out.mono ?_
        rintro e w7 ⟨rfl, hb7⟩
        have D2 := Lib.hid (done_any t vb3 w2.heap.size n V w7 (KT.out.below hb7))
        have KS7 := Lib.hid (KS.out.below hb7)
        have KC7 := Lib.hid (KC4.out.call hb7)
        clear D1 hb7 KC4 KS KT
        go_wp2_with fail
        refine D2.out.mono ?_
        rintro e w8 ⟨rfl, hb8⟩
        have KS8 := Lib.hid (KS7.out.below hb8)
        have KC8 := Lib.hid (KC7.out.call hb8)
        have D3 := Lib.hid (done_any s vb w.heap.size n V w8 KS8.out)
        clear D2 hb8 KC7 KS7
        go_wp2_with fail
        refine D3.out.mono ?_
        rintro e w9 ⟨rfl, hb9⟩
        have KS9 := Lib.hid (KS8.out.below hb9)
        have KC9 := Lib.hid (KC8.out.call hb9)
        have OF := offer_any s vb w.heap.size n V x w9 KS9.out (by unfold maxLen; omega)
        unfold offerV at OF
        clear D3 hb9 KC8 KS8
        by_cases hfull : n ≤ V.length
        · rw [if_pos hfull] at OF
          have OF := Lib.hid OF
          clear hfull
          go_wp2_with fail
          refine OF.out.mono ?_
          rintro e w10 ⟨rfl, hb10⟩
          go_wp2_with fail
          refine (alive_any _).mono ?_
          rintro e w11 ⟨rfl, hb11⟩
          go_wp2_with fail
          go_ret
          exact ⟨rfl, ((KC9.out.call hb10).call hb11).below⟩
        · rw [if_neg hfull] at OF
          cases hno : noteF V.length x with
          | none =>
            rw [hno] at OF
            have OF := Lib.hid OF
            clear hfull hno
            go_wp2_with fail
            refine OF.out.mono ?_
            rintro e w10 ⟨rfl, hb10⟩
            go_wp2_with fail
            refine (alive_any _).mono ?_
            rintro e w11 ⟨rfl, hb11⟩
            go_wp2_with fail
            go_ret
            exact ⟨rfl, ((KC9.out.call hb10).call hb11).below⟩
          | some l =>
            rw [hno] at OF
            have OF := Lib.hid OF
            have HAD := Lib.hid (add_note hno (by omega : (V.length : Int) < n))
            have HAG := Lib.hid (add_again (n := n) hno)
            have hls : (bS l).size ≤ 140737488351232 := by
              have h5 := (parse_note hno).2.2.2
              have h6 : l = encN V.length ++ (encN x.size ++ sB x) := by
                unfold noteF at hno
                split at hno
                · cases hno; simp
                · cases hno
              have h7 := encN_len 8 V.length (by omega)
              have h8 := encN_len 8 x.size (by omega)
              rw [bS_size, h6, List.length_append, List.length_append, sB_length]
              omega
            have HVA := Lib.hid (valueV_at (vals := V ++ [x]) (i := V.length) (x := x) (by simp))
            have hVl : (V ++ [x]).length = V.length + 1 := by simp
            have HVL := Lib.hid hVl
            clear hfull hno hVl
            go_wp2_with fail
            refine OF.out.mono ?_
            rintro e w10 ⟨rfl, hb10⟩
            have KC10 := Lib.hid (KC9.out.call hb10)
            have A1 := Lib.hid (add_any s vb w.heap.size n V (bS l) w10 (KS9.out.below hb10) KC10.out.size h2 hls)
            clear OF hb10 KC9 KS9
            go_wp2_with fail
            refine A1.out.mono ?_
            intro e w11 hpost
            obtain ⟨vb11, rfl, S11, hv11, c11⟩ := hpost.at HAD.out
            have KS11 := Lib.hid S11
            have KV11 := Lib.hid (show ∀ g, vb11 = some g → w.heap.size ≤ g from fun g e => (hv11 g e).elim (fun h => KV1.out g h) (fun h => Nat.le_trans KC10.out.size h))
            have KC11 := Lib.hid (KC10.out.step c11 (fun k hk e => e.elim (fun e => by omega) (fun e => by have := KV1.out k e; omega)))
            have V1 := value_any s vb11 w.heap.size n _ (V.length : Int) w11 S11
            rw [HVA.out] at V1
            have V1 := Lib.hid V1
            clear A1 hpost S11 hv11 c11 KC10
            go_wp2_with fail
            refine V1.out.mono ?_
            rintro e w12 ⟨rfl, hb12⟩
            have KS12 := Lib.hid (KS11.out.below hb12)
            have KC12 := Lib.hid (KC11.out.call hb12)
            clear V1 hb12 KS11 KC11
            go_wp2_with fail
            refine (alive_any _).mono ?_
            rintro e w13 ⟨rfl, hb13⟩
            have KS13 := Lib.hid (KS12.out.below hb13)
            have KC13 := Lib.hid (KC12.out.call hb13)
            have D4 := done_any s vb11 w.heap.size n _ w13 KS13.out
            rw [HVL.out] at D4
            have D4 := Lib.hid D4
            clear hb13 KS12 KC12
            go_wp2_with fail
            refine D4.out.mono ?_
            rintro e w14 ⟨rfl, hb14⟩
            have KC14 := Lib.hid (KC13.out.call hb14)
            have A2 := Lib.hid (add_any s vb11 w.heap.size n _ (bS l) w14 (KS13.out.below hb14) KC14.out.size h2 hls)
            clear D4 hb14 KS13 KC13
            go_wp2_with fail
            refine A2.out.mono ?_
            intro e w15 hpost
            obtain ⟨vb15, rfl, S15, hv15, c15⟩ := hpost.at HAG.out
            have KC15 := Lib.hid (KC14.out.step c15 (fun k hk e => e.elim (fun e => by omega) (fun e => by have := KV11.out k e; omega)))
            clear A2 hpost S15 hv15 c15
            go_wp2_with fail
            go_ret
            exact ⟨rfl, KC15.out.below⟩
end Go.Proofs.Ytoknpcohhnlncaa
