/- FlowFixed: the walk. -/
import Derived.Test.YtoknpcohhnlncaaFlowX
import Derived.Test.YtoknpcohhnlncaaFlowP
import Derived.Test.YtoknpcohhnlncaaBulk
set_option linter.unusedVariables false
set_option linter.unusedSimpArgs false
namespace Go.Proofs.Ytoknpcohhnlncaa
open Go.RowKit

/-- The loop over the values. -/
def SameIn (w : World) (n : Nat) (v : Value) (wi : World) : Prop := ∃ j, j ≤ n ∧ v = .int .i64 (j : Nat) ∧ Ch (fun _ => False) w wi
/-- The loop over what comes more: the first state goes on, the second one stays. -/
def MoreIn (w : World) (s t : Nat) (vbt : Option Nat) (bt : Nat) (n : Int) (vals V2 more : List ByteArray) (v : Value) (wi : World) : Prop :=
  ∃ j vb, j ≤ more.length ∧ v = .int .i64 (j : Nat) ∧ St wi s vb w.heap.size n (foldF n vals (more.take j)) ∧ St wi t vbt bt n V2 ∧ (∀ g, vb = some g → w.heap.size ≤ g ∧ g ≠ t ∧ vbt ≠ some g) ∧ Ch (fun _ => False) w wi

set_option maxRecDepth 100000 in
set_option maxHeartbeats 8000000 in
theorem fixed_bad (n : Int) (a a2 : Option Addr) (cap cap2 : Nat) (log more : List ByteArray) (w : World) (h : n < 1 ∨ 64 < n) (ro : RowAt w a 1 oS log) (ro2 : RowAt w a2 1 oS more) (hl : log.length ≤ 1048576) (hl2 : more.length ≤ 1048576) :
    Calls Try.prog 4 #[.int .i64 n, .slice a log.length cap, .slice a2 more.length cap2] w fun e w' => e = .returned (.bool true) ∧ Below w.heap.size w w' := by
  have HF := Lib.hid (fun (a : Option Addr) len cap w => fold_bad n a len cap w h)
  have HRO := Lib.hid ro
  have HRO2 := Lib.hid ro2
  clear h ro ro2
  go_enter Try.func4, Try.ntmps4
  go_wp2_with fail
  refine (HF.out a log.length cap w).mono ?_
  rintro e w1 ⟨rfl, hb1⟩
  have KC1 := Lib.hid (Ch.of_below (fun _ => False) hb1)
  clear hb1
  have S0 : SRow (w1.alloc (.cells #[] 9)) w1.heap.size (.slice (some ⟨w1.heap.size, 0, none⟩) 0 0) [] := World.ownsRow_lit w1 #[] 0 (Nat.le_refl _) (by simp [maxLen]) rfl
  have HS0 := Lib.hid S0
  have HROa := Lib.hid (HRO.out.below (KC1.out.alloc (.cells #[] 9)).below)
  have hbs : w1.heap.size ≤ (w1.alloc (.cells #[] 9)).heap.size := by simp
  clear S0
  go_wp2_with (at_builtin; refine wpList_append_strs rfl (.tmp 26) (.tmp 27) rfl rfl (xs := log) (cap := cap) (ad := a) rfl rfl HS0.out HROa.out hbs ?c1 ?_)
  case c1 => simp; omega
  intro v2 w2 R2 hgrow2
  have KC2 := Lib.hid ((KC1.out.alloc (.cells #[] 9)).step (Ch.of_grown hgrow2) (fun k hk e => by
    have := HS0.out.own e.symm
    have := KC1.out.size
    omega))
  have KB2 := Lib.hid (show Ch (fun _ => False) w1 w2 from ((Ch.refl _ w1).alloc (.cells #[] 9)).step (Ch.of_grown hgrow2) (fun k hk e => by
    have := HS0.out.own e.symm
    omega))
  have HR2 := Lib.hid R2
  have HROb := Lib.hid (HRO2.out.below KC2.out.below)
  have hbs2 := KB2.out.size
  clear hgrow2 R2 HS0 HROa hbs
  go_wp2_with (at_builtin; refine wpList_append_strs rfl (.tmp 28) (.tmp 29) rfl rfl (xs := more) (cap := cap2) (ad := a2) rfl rfl HR2.out HROb.out hbs2 ?c1 ?_)
  case c1 => omega
  intro v3 w3 R3 hgrow3
  have KC3 := Lib.hid (KC2.out.step (Ch.of_grown hgrow3) (fun k hk e => by
    have := HR2.out.own e.symm
    have := KC1.out.size
    omega))
  have KB3 := Lib.hid (KB2.out.step (Ch.of_grown hgrow3) (fun k hk e => by
    have := HR2.out.own e.symm
    omega))
  obtain ⟨a3, cap3, rfl, hrow3⟩ := R3.row
  obtain ⟨all, hall⟩ : ∃ all, all = log ++ more := ⟨_, rfl⟩
  rw [← hall] at hrow3 ⊢
  have HALL := Lib.hid hall
  have HROW3 := Lib.hid hrow3
  clear hgrow3 R3 HR2 HROb hrow3 hall KB2 KC2
  go_wp2_with fail
  refine (HF.out _ _ _ w3).mono ?_
  rintro e w4 ⟨rfl, hb4⟩
  go_wp2_with fail
  refine (alive_any _).mono ?_
  rintro e w5 ⟨rfl, hb5⟩
  go_wp2_with fail
  go_ret
  exact ⟨rfl, ((KC3.out.call hb4).call hb5).below⟩

set_option maxRecDepth 100000 in
set_option maxHeartbeats 8000000 in
theorem fixed_main (n : Int) (a a2 : Option Addr) (cap cap2 : Nat) (log more : List ByteArray) (w : World) (h1 : 1 ≤ n) (h2 : n ≤ 64) (ro : RowAt w a 1 oS log) (ro2 : RowAt w a2 1 oS more) (hd : ∀ d ∈ log, d.size ≤ 140737488351232) (hd2 : ∀ d ∈ more, d.size ≤ 140737488351232) (hl : log.length ≤ 1048576) (hl2 : more.length ≤ 1048576) :
    Calls Try.prog 4 #[.int .i64 n, .slice a log.length cap, .slice a2 more.length cap2] w fun e w' => e = .returned (.bool true) ∧ Below w.heap.size w w' := by
  have HF1 := Lib.hid (fold_ok n a cap log w h1 h2 ro hd (by omega))
  have HRO := Lib.hid ro
  have HRO2 := Lib.hid ro2
  have HD := Lib.hid hd
  have HD2 := Lib.hid hd2
  clear ro ro2 hd hd2
  go_enter Try.func4, Try.ntmps4
  go_wp2_with fail
  refine HF1.out.mono ?_
  rintro e w1 ⟨s, vb, rfl, S1, hs1, hv1, hb1⟩
  have KS1 := Lib.hid S1
  have KV1 := Lib.hid hv1
  have KC1 := Lib.hid (Ch.of_below (fun _ => False) hb1)
  clear HF1 S1 hb1 hv1
  have S0 : SRow (w1.alloc (.cells #[] 9)) w1.heap.size (.slice (some ⟨w1.heap.size, 0, none⟩) 0 0) [] := World.ownsRow_lit w1 #[] 0 (Nat.le_refl _) (by simp [maxLen]) rfl
  have HS0 := Lib.hid S0
  have HROa := Lib.hid (HRO.out.below (KC1.out.alloc (.cells #[] 9)).below)
  have hbs : w1.heap.size ≤ (w1.alloc (.cells #[] 9)).heap.size := by simp
  clear S0
  go_wp2_with (at_builtin; refine wpList_append_strs rfl (.tmp 26) (.tmp 27) rfl rfl (xs := log) (cap := cap) (ad := a) rfl rfl HS0.out HROa.out hbs ?c1 ?_)
  case c1 => simp; omega
  intro v2 w2 R2 hgrow2
  have KC2 := Lib.hid ((KC1.out.alloc (.cells #[] 9)).step (Ch.of_grown hgrow2) (fun k hk e => by
    have := HS0.out.own e.symm
    have := KC1.out.size
    omega))
  have KB2 := Lib.hid (show Ch (fun _ => False) w1 w2 from ((Ch.refl _ w1).alloc (.cells #[] 9)).step (Ch.of_grown hgrow2) (fun k hk e => by
    have := HS0.out.own e.symm
    omega))
  have HR2 := Lib.hid R2
  have HROb := Lib.hid (HRO2.out.below KC2.out.below)
  have hbs2 := KB2.out.size
  clear hgrow2 R2 HS0 HROa hbs
  go_wp2_with (at_builtin; refine wpList_append_strs rfl (.tmp 28) (.tmp 29) rfl rfl (xs := more) (cap := cap2) (ad := a2) rfl rfl HR2.out HROb.out hbs2 ?c1 ?_)
  case c1 => omega
  intro v3 w3 R3 hgrow3
  have KC3 := Lib.hid (KC2.out.step (Ch.of_grown hgrow3) (fun k hk e => by
    have := HR2.out.own e.symm
    have := KC1.out.size
    omega))
  have KB3 := Lib.hid (KB2.out.step (Ch.of_grown hgrow3) (fun k hk e => by
    have := HR2.out.own e.symm
    omega))
  obtain ⟨a3, cap3, rfl, hrow3⟩ := R3.row
  obtain ⟨all, hall⟩ : ∃ all, all = log ++ more := ⟨_, rfl⟩
  rw [← hall] at hrow3 ⊢
  have HALL := Lib.hid hall
  have HROW3 := Lib.hid hrow3
  clear hgrow3 R3 HR2 HROb hrow3 hall KB2 KC2
  go_wp2_with fail
  have HF2 := Lib.hid (fold_ok n a3 cap3 all w3 h1 h2 HROW3.out (fun d hd => by
    rw [HALL.out] at hd
    rcases List.mem_append.1 hd with h | h
    · exact HD.out d h
    · exact HD2.out d h) (by rw [HALL.out, List.length_append]; omega))
  refine HF2.out.mono ?_
  rintro e w4 ⟨t, vbt, rfl, T4, ht4, hvt4, hb4⟩
  have KC4 := Lib.hid (KC3.out.call hb4)
  have KS4 := Lib.hid ((KS1.out.below KB3.out.below).below hb4)
  have hstlt := (KS1.out.below KB3.out.below).lt
  have hne : s ≠ t := by have := hstlt.1; omega
  have KV4 := Lib.hid (show ∀ g, vb = some g → w.heap.size ≤ g ∧ g ≠ t ∧ vbt ≠ some g from fun g e => ⟨KV1.out g e, by have := (hstlt.2 g e).1; omega, fun e2 => by have := (hstlt.2 g e).1; have := hvt4 g e2; omega⟩)
  have KT4 := Lib.hid T4
  have KVT := Lib.hid (show ∀ g, vbt = some g → g ≠ s from fun g e => by have := hvt4 g e; have := hstlt.1; omega)
  obtain ⟨V, hV⟩ : ∃ V, V = foldF n [] log := ⟨_, rfl⟩
  obtain ⟨V2, hV2⟩ : ∃ V2, V2 = foldF n [] all := ⟨_, rfl⟩
  have hVV : foldF n V more = V2 := by rw [hV2, HALL.out, foldF_append, hV]
  rw [← hV] at KS4
  rw [← hV2] at KT4
  have HVV := Lib.hid hVV
  have hwt := Nat.le_trans KC3.out.size ht4
  have HW1 := Lib.hid (few_any a cap log w4 (HRO.out.below KC4.out.below) (by omega))
  clear HF2 T4 hb4 KS1 KV1 KC1 KC3 KB3 HROW3 hstlt hV hV2 hVV hvt4
  go_wp2_with fail
  refine HW1.out.mono ?_
  rintro e w5 ⟨⟨b, rfl⟩, hb5⟩
  have KC5 := Lib.hid (KC4.out.call hb5)
  have KS5 := Lib.hid (KS4.out.below hb5)
  have KT5 := Lib.hid (KT4.out.below hb5)
  clear HW1 hb5 KC4 KS4 KT4
  cases b with
  | false =>
    go_wp2_with fail
    refine (alive_any _).mono ?_
    rintro e w6 ⟨rfl, hb6⟩
    go_wp2_with fail
    go_ret
    exact ⟨rfl, (KC5.out.call hb6).below⟩
  | true =>
    have HW2 := Lib.hid (few_any a2 cap2 more w5 (HRO2.out.below KC5.out.below) (by omega))
    go_wp2_with fail
    refine HW2.out.mono ?_
    rintro e w6 ⟨⟨b, rfl⟩, hb6⟩
    have KC6 := Lib.hid (KC5.out.call hb6)
    have KS6 := Lib.hid (KS5.out.below hb6)
    have KT6 := Lib.hid (KT5.out.below hb6)
    clear HW2 hb6 KC5 KS5 KT5
    cases b with
    | false =>
      go_wp2_with fail
      refine (alive_any _).mono ?_
      rintro e w7 ⟨rfl, hb7⟩
      go_wp2_with fail
      go_ret
      exact ⟨rfl, (KC6.out.call hb7).below⟩
    | true =>
      have D1 := Lib.hid (done_any s vb w.heap.size n V w6 KS6.out)
      have hVs := KS6.out.small
      go_wp2_with fail
      refine D1.out.mono ?_
      rintro e w7 ⟨rfl, hb7⟩
      have KC7 := Lib.hid (KC6.out.call hb7)
      have KS7 := Lib.hid (KS6.out.below hb7)
      have KT7 := Lib.hid (KT6.out.below hb7)
      clear D1 hb7 KC6 KS6 KT6
      go_wp2_with fail
      go_loopw [66] (fun v66 wi => SameIn w7 V.length v66 wi) (fun i _ => V.length - (intOf i).toNat)
      case atStart => exact ⟨0, Nat.zero_le _, rfl, Ch.refl _ _⟩
      case round =>
        obtain ⟨j, hj, rfl, C8⟩ := hrel
        have KC8 := Lib.hid C8
        clear C8
        by_cases hlt : j < V.length
        · have ht : decide ((j : Int) < (V.length : Int)) = true := by simpa using hlt
          have ht2 : decide (V.length ≤ j) = false := by simpa using hlt
          obtain ⟨x, hx⟩ : ∃ x, V[j]? = some x := ⟨_, List.getElem?_eq_getElem hlt⟩
          have hx2 : V2[j]? = some x := by rw [← HVV.out]; exact prefix_at (foldF_prefix n more V) hx
          have A1 := value_any s vb w.heap.size n V (j : Int) wr (KS7.out.below KC8.out.below)
          rw [valueV_at hx] at A1
          have A1 := Lib.hid A1
          have HX2 := Lib.hid (valueV_at hx2)
          clear hx hx2
          go_wp2_with fail
          refine A1.out.mono ?_
          rintro e w9 ⟨rfl, hb9⟩
          have KC9 := Lib.hid (KC8.out.call hb9)
          have A2 := value_any t vbt _ n V2 (j : Int) w9 (KT7.out.below KC9.out.below)
          rw [HX2.out] at A2
          have A2 := Lib.hid A2
          clear A1 hb9 KC8
          go_wp2_with fail
          refine A2.out.mono ?_
          rintro e w10 ⟨rfl, hb10⟩
          have KC10 := Lib.hid (KC9.out.call hb10)
          clear A2 hb10 KC9
          go_wp2_with fail
          go_roundw
          case rel => exact ⟨j + 1, hlt, by simp, KC10.out⟩
          case measure => simp only [intOf]; omega
        · have ht : decide ((j : Int) < (V.length : Int)) = false := by simpa using hlt
          have ht2 : decide (V.length ≤ j) = true := by simp; omega
          have KS8 := Lib.hid (KS7.out.below KC8.out.below)
          have KT8 := Lib.hid (KT7.out.below KC8.out.below)
          have KCR := Lib.hid (KC7.out.trans KC8.out)
          clear KS7 KT7 KC7 KC8
          go_wp2_with fail
          go_loopw [91] (fun v91 wi => MoreIn w s t vbt w3.heap.size n V V2 more v91 wi) (fun i _ => more.length - (intOf i).toNat)
          case atStart => exact ⟨0, vb, Nat.zero_le _, rfl, KS8.out, KT8.out, KV4.out, KCR.out⟩
          case round =>
            obtain ⟨i, vb5, hi, rfl, S9, T9, hv9, C9⟩ := hrel
            have KS9 := Lib.hid S9
            have KT9 := Lib.hid T9
            have KV9 := Lib.hid hv9
            have KC9 := Lib.hid C9
            clear S9 T9 hv9 C9 KS8 KT8 KCR
            by_cases hlt2 : i < more.length
            · have hti : decide ((i : Int) < (more.length : Int)) = true := by simpa using hlt2
              have hti2 : decide (more.length ≤ i) = false := by simpa using hlt2
              obtain ⟨d, hp⟩ : ∃ d, more[i]? = some d := ⟨_, List.getElem?_eq_getElem hlt2⟩
              obtain ⟨b0, off, rfl, hb0, hcells⟩ := HRO2.out i d hp
              have q0 : wr.cell? ⟨b0, off + i, none⟩ = some (.string d) := by
                have := (KC9.out.below.cell (p := ⟨b0, _, none⟩) hb0).trans (hcells 0 _ rfl)
                simpa using this
              have HFS := Lib.hid (foldF_snoc n V (more.take i) d)
              rw [show more.take i ++ [d] = more.take (i + 1) by rw [List.take_add_one, hp]; rfl] at HFS
              obtain ⟨⟨vals2, ok⟩, ha⟩ : ∃ x, addF n (foldF n V (more.take i)) (sB d) = x := ⟨_, rfl⟩
              have HA := Lib.hid (add_any s vb5 w.heap.size n _ d wr KS9.out KC9.out.size h2 (HD2.out d (List.mem_of_getElem? hp)))
              have HAF := Lib.hid ha
              clear hcells ha
              go_wp2_with fail
              refine HA.out.mono ?_
              intro e w10 hpost
              obtain ⟨vb6, rfl, S10, hv10, c10⟩ := hpost.at HAF.out
              have HS10 := Lib.hid S10
              have HT10 := Lib.hid (KT9.out.ch c10 (by
                rintro (e | e)
                · exact hne e.symm
                · exact (KV9.out t e).2.1 rfl) (fun g e => by
                rintro (e2 | e2)
                · exact KVT.out g e e2
                · exact (KV9.out g e2).2.2 e))
              have HV10 := Lib.hid (show ∀ g, vb6 = some g → w.heap.size ≤ g ∧ g ≠ t ∧ vbt ≠ some g from fun g e => by
                rcases hv10 g e with h | h
                · exact KV9.out g h
                · have := KT9.out.lt
                  exact ⟨Nat.le_trans KC9.out.size h, by omega, fun e2 => by have := (this.2 g e2).1; omega⟩)
              have HC10 := Lib.hid (KC9.out.step c10 (fun k hk e => by
                rcases e with e | e
                · omega
                · have := (KV9.out k e).1; omega))
              clear HA hpost S10 hv10 c10
              go_wp2_with fail
              go_roundw
              case rel => exact ⟨i + 1, vb6, hlt2, by simp, by rw [HFS.out, HAF.out]; exact HS10.out, HT10.out, HV10.out, HC10.out⟩
              case measure => simp only [intOf]; omega
            · have hti : decide ((i : Int) < (more.length : Int)) = false := by simpa using hlt2
              have hti2 : decide (more.length ≤ i) = true := by simp; omega
              have KS10 := KS9.out
              rw [show i = more.length by omega, List.take_length, HVV.out] at KS10
              have KS10 := Lib.hid KS10
              clear KS9
              go_wp2_with fail
              refine (alive_any _).mono ?_
              rintro e w11 ⟨rfl, hb11⟩
              have KC11 := Lib.hid (KC9.out.call hb11)
              have KS11 := Lib.hid (KS10.out.below hb11)
              have KT11 := Lib.hid (KT9.out.below hb11)
              have E1 := Lib.hid (done_any s _ _ n V2 w11 KS11.out)
              clear hb11 KC9 KS10 KT9
              go_wp2_with fail
              refine E1.out.mono ?_
              rintro e w12 ⟨rfl, hb12⟩
              have KC12 := Lib.hid (KC11.out.call hb12)
              have E2 := Lib.hid (done_any t _ _ n V2 w12 (KT11.out.below hb12))
              clear E1 hb12 KC11
              go_wp2_with fail
              refine E2.out.mono ?_
              rintro e w13 ⟨rfl, hb13⟩
              have KC13 := Lib.hid (KC12.out.call hb13)
              go_wp2_with fail
              go_ret
              exact ⟨rfl, KC13.out.below⟩

/-- A text, weighed. -/
theorem flatStrB : FlatB Try.prog 9 oS (fun s => s.size ≤ maxLen) (fun s => s.size + 1) := FlatB.str Try.underlying9
theorem sum_at : ∀ {xs : List ByteArray} {d : ByteArray}, d ∈ xs → d.size + 1 ≤ (xs.map fun s => s.size + 1).sum
  | x :: xs, d, h => by
    simp only [List.map_cons, List.sum_cons]
    rcases List.mem_cons.1 h with h | h
    · subst h; omega
    · have := sum_at h; omega
theorem sum_len : ∀ (xs : List ByteArray), xs.length ≤ (xs.map fun s => s.size + 1).sum
  | [] => by simp
  | x :: xs => by
    have := sum_len xs
    simp only [List.map_cons, List.sum_cons, List.length_cons]
    omega
/-- FlowFixed answers true. -/
theorem fixed_row (n : Int) (a : Option Addr) (cap : Nat) (log : List ByteArray) (a2 : Option Addr) (cap2 : Nat) (more : List ByteArray) (w : World) (_ : (Lit.int .i64 n).wf = true) (_ : log.length ≤ cap) (ro : RowAt w a 1 oS log) (_ : ∀ d ∈ log, d.size ≤ maxLen) (_ : log.length * 16 ≤ 140737488351232)
    (_ : more.length ≤ cap2) (ro2 : RowAt w a2 1 oS more) (_ : ∀ d ∈ more, d.size ≤ maxLen) (_ : more.length * 16 ≤ 140737488351232) (hb1 : (log.map fun s => s.size + 1).sum + 1 ≤ 1048576) (hb2 : (more.map fun s => s.size + 1).sum + 1 ≤ 1048576) :
    Calls Try.prog 4 #[.int .i64 n, .slice a log.length cap, .slice a2 more.length cap2] w fun e w' => e = .returned (.bool true) ∧ Below w.heap.size w w' := by
  have l1 := sum_len log
  have l2 := sum_len more
  by_cases hn : 1 ≤ n ∧ n ≤ 64
  · exact fixed_main n a a2 cap cap2 log more w hn.1 hn.2 ro ro2 (fun d hd => by have := sum_at hd; omega) (fun d hd => by have := sum_at hd; omega) (by omega) (by omega)
  · exact fixed_bad n a a2 cap cap2 log more w (by omega) ro ro2 (by omega) (by omega)
end Go.Proofs.Ytoknpcohhnlncaa
