/- SessionIds: the walk. -/
import Derived.Test.YtjilfmphdncapaaSesAllW
namespace Go.Proofs.Ytjilfmphdncapaa
open Go.RowKit

/-- '==' of two ids, as one Bool. -/
theorem eqId (d : Nat) (w : World) (x1 y1 x2 y2 : Int) :
    (Op.equalIn (d + 2) 41 (.agg #[.int .i64 x1, .int .i64 x2]) (.agg #[.int .i64 y1, .int .i64 y2])).run Try.prog w = .ok (x1 == y1 && (x2 == y2)) w := by
  refine runEq_struct Try.underlying41 (by kernel_rfl) ?_
  refine runEqFields_cons (by decide) (by go_simp; rfl) (by go_simp; rfl) (by go_simp) ?_
  exact runEqFields_last (by decide) (by go_simp; rfl) (by go_simp; rfl) (by go_simp)

/-- What a call does to the first session. -/
theorem doOn_first {sts : List Sn} {c m t n : Int} (o : OpD) (i : Nat) (s : Sn) (h : sts[0]? = some ⟨c, m, t, n⟩) (hs : sts[i]? = some s) :
    if o.k = 2 ∧ i = 0 then (doOn sts i s o).2 = ⟨0, c, m⟩ ∧ (doOn sts i s o).1[0]? = some ⟨c, m + 1, t, n⟩ else ∃ t' n', (doOn sts i s o).1[0]? = some ⟨c, m, t', n'⟩ := by
  have hlen : 0 < sts.length := (List.getElem?_eq_some_iff.1 h).1
  by_cases hi : i = 0
  · subst hi
    rw [h] at hs
    cases hs
    have hset : ∀ x : Sn, (sts.set 0 x)[0]? = some x := fun x => List.getElem?_set_self hlen
    unfold doOn
    by_cases k2 : o.k = 2
    · rw [if_pos ⟨k2, rfl⟩, if_neg (by omega), if_neg (by omega), if_pos k2]
      exact ⟨rfl, hset _⟩
    · rw [if_neg (fun e => k2 e.1)]
      repeat' split
      all_goals first
        | exact ⟨_, _, hset _⟩
        | exact ⟨t, n, h⟩
        | exact ⟨t, n, by rw [List.getElem?_append_left hlen]; exact h⟩
        | contradiction
  · rw [if_neg (fun e => hi e.2)]
    have hset : ∀ x : Sn, (sts.set i x)[0]? = some ⟨c, m, t, n⟩ := fun x => by rw [List.getElem?_set_ne hi]; exact h
    refine ⟨t, n, ?_⟩
    unfold doOn
    repeat' split
    all_goals first
      | exact hset _
      | exact h
      | (rw [List.getElem?_append_left hlen]; exact h)
theorem doF_first {sts : List Sn} {c m t n : Int} (o : OpD) (h : sts[0]? = some ⟨c, m, t, n⟩) :
    if o.k = 2 ∧ o.who = 0 then (doF sts o).2 = ⟨0, c, m⟩ ∧ (doF sts o).1[0]? = some ⟨c, m + 1, t, n⟩ else ∃ t' n', (doF sts o).1[0]? = some ⟨c, m, t', n'⟩ := by
  have hlen : 0 < sts.length := (List.getElem?_eq_some_iff.1 h).1
  by_cases hn : o.who < 0 ∨ (sts.length : Int) ≤ o.who
  · rw [doF_none hn, if_neg (fun e => by omega)]
    exact ⟨t, n, h⟩
  · obtain ⟨i, hi⟩ : ∃ i : Nat, o.who = (i : Int) := ⟨o.who.toNat, by omega⟩
    have hs : sts[i]? = some sts[i] := List.getElem?_eq_getElem (by omega)
    rw [doF_some hi hs]
    have := doOn_first o i sts[i] h hs
    by_cases h0 : o.k = 2 ∧ o.who = 0
    · rw [if_pos h0]
      rw [if_pos ⟨h0.1, by omega⟩] at this
      exact this
    · rw [if_neg h0]
      rw [if_neg (fun e => h0 ⟨e.1, by omega⟩)] at this
      exact this

/-- The early answers. -/
def early (c : Int) (len : Nat) (many : Int) : Prop := 200 < len ∨ many < 0 ∨ 200 < many

set_option maxRecDepth 100000 in
set_option maxHeartbeats 4000000 in
theorem ids_bad (c many : Int) (b : Option Addr) (len cap : Nat) (w : World) (hc : (decide (0 ≤ c) && decide (c ≤ 1099511627776)) = false) :
    Calls Try.prog 6 #[.int .i64 c, .slice b len cap, .int .i64 many] w fun e w' => e = .returned (.bool true) ∧ Below w.heap.size w w' := by
  have HC := Lib.hid hc
  clear hc
  go_enter Try.func6, Try.ntmps6
  go_wp2_with fail
  refine (new_bad c _ HC.out).mono ?_
  rintro e w1 ⟨rfl, hb1⟩
  go_wp2_with fail
  refine (alive_any _).mono ?_
  rintro e w2 ⟨rfl, hb2⟩
  go_wp2
  go_ret
  exact ⟨rfl, (((Ch.refl (fun _ => False) w).call hb1).call hb2).below⟩

set_option maxRecDepth 100000 in
set_option maxHeartbeats 4000000 in
theorem ids_early (c many : Int) (b : Option Addr) (len cap : Nat) (w : World) (hc0 : 0 ≤ c) (hc1 : c ≤ 1099511627776) (h : 200 < len ∨ many < 0 ∨ 200 < many) :
    Calls Try.prog 6 #[.int .i64 c, .slice b len cap, .int .i64 many] w fun e w' => e = .returned (.bool true) ∧ Below w.heap.size w w' := by
  by_cases hl : 200 < len
  · have h3 : decide ((200 : Int) < (len : Int)) = true := by simp; omega
    clear h hl
    go_enter Try.func6, Try.ntmps6
    go_wp2_with fail
    refine (new_ok c _ hc0 hc1).mono ?_
    rintro e w1 ⟨rfl, _, hb1⟩
    go_wp2_with fail
    refine (alive_any _).mono ?_
    rintro e w2 ⟨rfl, hb2⟩
    go_wp2
    go_ret
    exact ⟨rfl, (((Ch.refl (fun _ => False) w).call hb1).call hb2).below⟩
  · have h3 : decide ((200 : Int) < (len : Int)) = false := by simp; omega
    by_cases hm : many < 0
    · have h4 : decide (many < 0) = true := by simpa using hm
      clear h hl hm
      go_enter Try.func6, Try.ntmps6
      go_wp2_with fail
      refine (new_ok c _ hc0 hc1).mono ?_
      rintro e w1 ⟨rfl, _, hb1⟩
      go_wp2_with fail
      refine (alive_any _).mono ?_
      rintro e w2 ⟨rfl, hb2⟩
      go_wp2
      go_ret
      exact ⟨rfl, (((Ch.refl (fun _ => False) w).call hb1).call hb2).below⟩
    · have h4 : decide (many < 0) = false := by simpa using hm
      have h5 : decide (200 < many) = true := by simp; omega
      clear h hl hm
      go_enter Try.func6, Try.ntmps6
      go_wp2_with fail
      refine (new_ok c _ hc0 hc1).mono ?_
      rintro e w1 ⟨rfl, _, hb1⟩
      go_wp2_with fail
      refine (alive_any _).mono ?_
      rintro e w2 ⟨rfl, hb2⟩
      go_wp2
      go_ret
      exact ⟨rfl, (((Ch.refl (fun _ => False) w).call hb1).call hb2).below⟩

/-- At the first loop's head: j calls are done, the first session told m ids. -/
def Ids (w0 : World) (c : Int) (ops : List OpD) (v9 v10 v46 : Value) (w : World) : Prop :=
  ∃ (j : Nat) (bs : List Nat) (sts : List Sn) (m t n : Int), j ≤ ops.length ∧ v46 = .int .i64 j ∧ v10 = .int .i64 m ∧ SesRow w w0.heap.size v9 bs sts ∧ bs[0]? = some w0.heap.size ∧ sts[0]? = some ⟨c, m, t, n⟩ ∧ sts.length ≤ j + 1 ∧ Small j sts ∧ Ch (fun _ => False) w0 w
/-- At the second loop's head: k ids more were asked for. -/
def IdsB (w0 : World) (c : Int) (many : Nat) (v10 v75 : Value) (w : World) : Prop :=
  ∃ (k : Nat) (m t n : Int), k ≤ many ∧ v75 = .int .i64 k ∧ v10 = .int .i64 m ∧ 0 ≤ m ∧ m ≤ 200 + k ∧ Ses w w0.heap.size c m t n ∧ Ch (fun _ => False) w0 w

attribute [local go_sem high] eqId
attribute [local go_sem] AnsD.cells
set_option maxRecDepth 100000 in
set_option maxHeartbeats 8000000 in
theorem ids_main (c : Int) (b : Option Addr) (cap : Nat) (many : Nat) (ops : List OpD) (w : World) (hc0 : 0 ≤ c) (hc1 : c ≤ 1099511627776) (hl : ops.length ≤ 200) (hmany : many ≤ 200) (hrow : RowAt w b 5 OpD.out ops) :
    Calls Try.prog 6 #[.int .i64 c, .slice b ops.length cap, .int .i64 many] w fun e w' => e = .returned (.bool true) ∧ Below w.heap.size w w' := by
  have h3 : decide ((200 : Int) < (ops.length : Int)) = false := by simp; omega
  have h4 : decide ((many : Int) < 0) = false := by simp
  have h5 : decide ((200 : Int) < (many : Int)) = false := by simp; omega
  have HROW := Lib.hid hrow
  clear hrow
  go_enter Try.func6, Try.ntmps6
  go_wp2_with fail
  refine (new_ok c _ hc0 hc1).mono ?_
  rintro e w1 ⟨rfl, S1, hb1⟩
  go_wp2_with fail
  have SR0 : SesRow (w1.alloc (.cells #[.pointer (some ⟨w.heap.size, 0, none⟩)] 30)) w.heap.size (.slice (some ⟨w1.heap.size, 0, none⟩) 1 1) [w.heap.size] [⟨c, 0, 0, 0⟩] := by
    refine ⟨?_, rfl, by simp, ?_, ?_⟩
    · have := World.ownsRow_lit (e := 30) (size := 1) (base := w.heap.size) w1 #[.pointer (some ⟨w.heap.size, 0, none⟩)] 1 (by have := hb1.size; omega) (by simp [maxLen]) (by simp)
      simpa [ptrV] using this
    · intro i b s hb hs
      match i, hb with
      | 0, hb =>
        simp at hb hs
        subst hb hs
        exact S1.alloc _
      | i + 1, hb => simp at hb
    · simp
  have HS0 := Lib.hid SR0
  have HC0 := Lib.hid (((Ch.refl (fun _ => False) w).call hb1).alloc (.cells #[.pointer (some ⟨w.heap.size, 0, none⟩)] 30))
  clear SR0 S1 hb1
  go_loopw [9, 10, 46] (fun v9 v10 v46 wr => Ids w c ops v9 v10 v46 wr) (fun _ _ i _ => ops.length - (intOf i).toNat)
  case atStart => exact ⟨0, [w.heap.size], [⟨c, 0, 0, 0⟩], 0, 0, 0, Nat.zero_le _, rfl, rfl, HS0.out, rfl, rfl, by simp, by intro s hs; simp at hs; subst hs; simp, HC0.out⟩
  case round =>
    obtain ⟨j, bs, sts, m, t, n, hj, rfl, rfl, hS, hb0', hs0, hn2, hm, hC⟩ := hrel
    have KS := Lib.hid hS
    have KC := Lib.hid hC
    have KM := Lib.hid hm
    have KB0 := Lib.hid hb0'
    have KS0 := Lib.hid hs0
    have hm0 : 0 ≤ m ∧ m ≤ j := hm ⟨c, m, t, n⟩ (List.mem_of_getElem? hs0)
    clear HC0 HS0 hS hC hm hb0' hs0
    by_cases hlt : j < ops.length
    · have ht : decide ((j : Int) < (ops.length : Int)) = true := by simpa using hlt
      obtain ⟨o, ho⟩ : ∃ o, ops[j]? = some o := ⟨_, List.getElem?_eq_getElem hlt⟩
      obtain ⟨b0, off, rfl, hb0, hcells⟩ := HROW.out j o ho
      have q0 : wr.cell? ⟨b0, off + j * 5, none⟩ = some (.int .i64 o.k) := (KC.out.below.cell (p := ⟨b0, _, none⟩) hb0).trans (hcells 0 _ rfl)
      have q1 : wr.cell? ⟨b0, off + j * 5 + 1, none⟩ = some (.int .i64 o.who) := (KC.out.below.cell (p := ⟨b0, _, none⟩) hb0).trans (hcells 1 _ rfl)
      have q2 : wr.cell? ⟨b0, off + j * 5 + 2, none⟩ = some (.int .i64 o.x) := (KC.out.below.cell (p := ⟨b0, _, none⟩) hb0).trans (hcells 2 _ rfl)
      have q3 : wr.cell? ⟨b0, off + j * 5 + 3, none⟩ = some (.int .i64 o.a1) := (KC.out.below.cell (p := ⟨b0, _, none⟩) hb0).trans (hcells 3 _ rfl)
      have q4 : wr.cell? ⟨b0, off + j * 5 + 4, none⟩ = some (.int .i64 o.a2) := (KC.out.below.cell (p := ⟨b0, _, none⟩) hb0).trans (hcells 4 _ rfl)
      clear hcells
      have C1 := KC.out.alloc (.cells o.cells 39)
      have S1 := KS.out.below (below1 wr (.cells o.cells 39))
      have B1 : Blk (wr.alloc (.cells o.cells 39)) wr.heap.size #[.int .i64 o.k, .int .i64 o.who, .int .i64 o.x, .int .i64 o.a1, .int .i64 o.a2] 39 := Blk.new wr o.cells 39
      have hls : sts.length ≤ 1000 := by omega
      have hms : Small 1000 sts := fun s hs => ⟨(KM.out s hs).1, by have := (KM.out s hs).2; omega⟩
      have hlts := KS.out.lts
      have hfirst := doF_first o KS0.out
      obtain ⟨sts', a, hr⟩ : ∃ sts' a, doF sts o = (sts', a) := ⟨_, _, rfl⟩
      obtain ⟨hsm, hup1, hup2⟩ : Small ((j : Int) + 1) sts' ∧ sts'.length ≤ sts.length + 1 ∧ sts.length ≤ sts'.length := by
        have := doF_small o KM.out (by omega)
        rw [hr] at this
        exact this
      rw [hr] at hfirst
      obtain ⟨ae, ac, an⟩ := a
      have HF := Lib.hid hfirst
      have HSM := Lib.hid hsm
      have E := does_any w.heap.size u9 bs sts o _ S1 hls (by have := C1.size; omega) hms
      rw [hr] at E
      have HE := Lib.hid E
      have HC1 := Lib.hid C1
      have HS1 := Lib.hid S1
      have HB1 := Lib.hid B1
      clear C1 S1 B1 hms KS KC hsm hfirst E hr KS0 KM
      go_wp2_with fail
      refine HE.out.mono ?_
      rintro e w4 ⟨v9', bs', hpre, rfl, S4, c4⟩
      have C4 := HC1.out.step c4 (fun k hk e => by
        rcases e with e | e
        · have := HS1.out.ge k e; omega
        · have := HS1.out.geOwn e; omega)
      have B4 := HB1.out.ch c4 (fun e => by
        rcases e with e | e
        · have := hlts.1 _ e; omega
        · have := hlts.2 _ e; omega)
      have HB0 := Lib.hid (show bs'[0]? = some w.heap.size by
        obtain ⟨l, rfl⟩ := hpre
        have h0 := KB0.out
        rw [List.getElem?_append_left (List.getElem?_eq_some_iff.1 h0).1]
        exact h0)
      have B5 := B4.alloc (.cells #[.int .i64 ae, .int .i64 ac, .int .i64 an] 43)
      have N5 := Blk.new w4 #[.int .i64 ae, .int .i64 ac, .int .i64 an] 43
      have S5 := Lib.hid (S4.below (below1 w4 (.cells #[.int .i64 ae, .int .i64 ac, .int .i64 an] 43)))
      have C5 := Lib.hid (C4.alloc (.cells #[.int .i64 ae, .int .i64 ac, .int .i64 an] 43))
      obtain ⟨r1, r2⟩ := B5.cells
      obtain ⟨r3, r4⟩ := N5.cells
      clear HE C4 B4 S4 B5 N5 c4 q0 q1 q2 q3 q4 hlts hpre KB0 HC1 HS1 HB1
      by_cases hk : o.k = 2 ∧ o.who = 0
      · obtain ⟨hk2, hw0⟩ := hk
        have e1 : (o.k == 2) = true := by simp [hk2]
        have e2 : (o.who == 0) = true := by simp [hw0]
        have hfi := HF.out
        rw [if_pos ⟨hk2, hw0⟩] at hfi
        obtain ⟨ha, hst0⟩ := hfi
        simp at ha
        obtain ⟨rfl, rfl, rfl⟩ := ha
        have HST := Lib.hid hst0
        clear hst0 HF hk2 hw0
        go_wp2_with fail
        go_roundw
        case rel => exact ⟨j + 1, bs', sts', an + 1, t, n, hlt, by simp, rfl, S5.out, HB0.out, HST.out, by omega, HSM.out, C5.out⟩
        case measure => simp only [intOf]; omega
      · have hfi := HF.out
        rw [if_neg hk] at hfi
        obtain ⟨t', n', hst0⟩ := hfi
        have HST := Lib.hid hst0
        by_cases hk2 : o.k = 2
        · have e1 : (o.k == 2) = true := by simp [hk2]
          have e2 : (o.who == 0) = false := by simp; exact fun e => hk ⟨hk2, e⟩
          clear hst0 HF hk2 hk
          go_wp2_with fail
          go_roundw
          case rel => exact ⟨j + 1, bs', sts', m, t', n', hlt, by simp, rfl, S5.out, HB0.out, HST.out, by omega, HSM.out, C5.out⟩
          case measure => simp only [intOf]; omega
        · have e1 : (o.k == 2) = false := by simp [hk2]
          clear hst0 HF hk2 hk
          go_wp2_with fail
          go_roundw
          case rel => exact ⟨j + 1, bs', sts', m, t', n', hlt, by simp, rfl, S5.out, HB0.out, HST.out, by omega, HSM.out, C5.out⟩
          case measure => simp only [intOf]; omega
    · have ht : decide ((j : Int) < (ops.length : Int)) = false := by simpa using hlt
      have S0 := Lib.hid (KS.out.ses 0 _ _ KB0.out KS0.out)
      clear KS KB0 KS0 KM
      go_wp2_with fail
      go_loopw [10, 75] (fun v10 v75 wi => IdsB w c many v10 v75 wi) (fun _ i _ => many - (intOf i).toNat)
      case atStart => exact ⟨0, m, t, n, Nat.zero_le _, rfl, rfl, hm0.1, by omega, S0.out, KC.out⟩
      case round =>
        obtain ⟨k, m2, t2, n2, hkm, rfl, rfl, g0, g1, S6, C6⟩ := hrel
        have HC6 := Lib.hid C6
        have HS6 := Lib.hid S6
        clear S0 KC C6 S6
        by_cases hlt2 : k < many
        · have hti : decide ((k : Int) < (many : Int)) = true := by simpa using hlt2
          have HI := Lib.hid (id_any _ c m2 t2 n2 wr HS6.out g0 (by omega))
          go_wp2_with fail
          refine HI.out.mono ?_
          rintro e w7 ⟨rfl, S7, c7⟩
          have C7 := HC6.out.step c7 (fun k hk e => by omega)
          have HC8 := Lib.hid (C7.alloc (.cells #[.int .i64 c, .int .i64 m2] 41))
          have HS8 := Lib.hid (Blk.alloc S7 (.cells #[.int .i64 c, .int .i64 m2] 41))
          obtain ⟨r1, r2⟩ := (Blk.new w7 #[.int .i64 c, .int .i64 m2] 41).cells
          clear HI C7 S7 c7 HC6 HS6
          go_wp2_with fail
          go_roundw
          case rel => exact ⟨k + 1, m2 + 1, t2, n2, hlt2, by simp, rfl, by omega, by omega, HS8.out, HC8.out⟩
          case measure => simp only [intOf]; omega
        · have hti : decide ((k : Int) < (many : Int)) = false := by simpa using hlt2
          go_wp2_with fail
          refine (alive_any _).mono ?_
          rintro e w2 ⟨rfl, hb2⟩
          go_wp2
          go_ret
          exact ⟨rfl, (HC6.out.call hb2).below⟩

/-- SessionIds answers true. -/
theorem ids_row (c : Int) (b : Option Addr) (cap : Nat) (ops : List OpD) (many : Int) (w : World) (_ : (Lit.int .i64 c).wf = true) (hlc : ops.length ≤ cap) (hro : RowAt w b 5 OpD.out ops) (_ : ∀ o ∈ ops, True) (hsz : ops.length * 40 ≤ 140737488351232) (_ : (Lit.int .i64 many).wf = true) :
    Calls Try.prog 6 #[.int .i64 c, .slice b ops.length cap, .int .i64 many] w fun e w' => e = .returned (.bool true) ∧ Below w.heap.size w w' := by
  cases hc : decide (0 ≤ c) && decide (c ≤ 1099511627776) with
  | false => exact ids_bad c many b ops.length cap w hc
  | true =>
    simp at hc
    by_cases hl : 200 < ops.length ∨ many < 0 ∨ 200 < many
    · exact ids_early c many b ops.length cap w hc.1 hc.2 hl
    · obtain ⟨k, rfl⟩ : ∃ k : Nat, many = (k : Int) := ⟨many.toNat, by omega⟩
      exact ids_main c b cap k ops w hc.1 hc.2 (by omega) (by omega) hro
end Go.Proofs.Ytjilfmphdncapaa
