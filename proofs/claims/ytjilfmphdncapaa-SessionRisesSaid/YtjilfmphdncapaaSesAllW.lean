/- SessionAll: the walk. -/
import Derived.Test.YtjilfmphdncapaaSesStep
import Derived.Test.YtjilfmphdncapaaSesForksW
import Derived.Test.YtjilfmphdncapaaOpen
set_option linter.unusedVariables false
set_option linter.unusedSimpArgs false
namespace Go.Proofs.Ytjilfmphdncapaa
open Go.RowKit

def OpD.out (o : OpD) : List Value := [.int .i64 o.k, .int .i64 o.who, .int .i64 o.x, .int .i64 o.a1, .int .i64 o.a2]

/-- '==' of two answers, as one Bool. -/
theorem eqAns (d : Nat) (w : World) (x0 y0 x1 y1 x2 y2 : Int) :
    (Op.equalIn (d + 3) 43 (.agg #[.int .i64 x0, .int .i64 x1, .int .i64 x2]) (.agg #[.int .i64 y0, .int .i64 y1, .int .i64 y2])).run Try.prog w = .ok (x0 == y0 && (x1 == y1 && (x2 == y2))) w := by
  refine runEq_struct Try.underlying43 (by kernel_rfl) ?_
  refine runEqFields_cons (by decide) (by go_simp; rfl) (by go_simp; rfl) (by go_simp) ?_
  refine runEqFields_last (by decide) (a := .agg #[.int .i64 x1, .int .i64 x2]) (b := .agg #[.int .i64 y1, .int .i64 y2]) (by go_simp) (by go_simp) ?_
  refine runEq_struct Try.underlying41 (by kernel_rfl) ?_
  refine runEqFields_cons (by decide) (by go_simp; rfl) (by go_simp; rfl) (by go_simp) ?_
  exact runEqFields_last (by decide) (by go_simp; rfl) (by go_simp; rfl) (by go_simp)

set_option maxRecDepth 100000 in
set_option maxHeartbeats 4000000 in
theorem all_bad (c : Int) (b : Option Addr) (len cap : Nat) (w : World) (hc : (decide (0 ≤ c) && decide (c ≤ 1099511627776)) = false) :
    Calls Try.prog 4 #[.int .i64 c, .slice b len cap] w fun e w' => e = .returned (.bool true) ∧ Below w.heap.size w w' := by
  have HC := Lib.hid hc
  by_cases h0 : c < 0
  · have h1 : decide (c < 0) = true := by simpa using h0
    clear hc h0
    go_enter Try.func4, Try.ntmps4
    go_wp2_with fail
    refine (new_bad c _ HC.out).mono ?_
    rintro e w1 ⟨rfl, hb1⟩
    go_wp2_with fail
    refine (alive_any _).mono ?_
    rintro e w2 ⟨rfl, hb2⟩
    go_wp2
    go_ret
    exact ⟨rfl, (((Ch.refl (fun _ => False) w).call hb1).call hb2).below⟩
  · have h1 : decide (c < 0) = false := by simpa using h0
    have h2 : decide (1099511627776 < c) = true := by simp at hc; simp; omega
    clear hc h0
    go_enter Try.func4, Try.ntmps4
    go_wp2_with fail
    refine (new_bad c _ HC.out).mono ?_
    rintro e w1 ⟨rfl, hb1⟩
    go_wp2_with fail
    refine (alive_any _).mono ?_
    rintro e w2 ⟨rfl, hb2⟩
    go_wp2
    go_ret
    exact ⟨rfl, (((Ch.refl (fun _ => False) w).call hb1).call hb2).below⟩

set_option maxRecDepth 100000 in
set_option maxHeartbeats 4000000 in
theorem all_long (c : Int) (b : Option Addr) (len cap : Nat) (w : World) (hc0 : 0 ≤ c) (hc1 : c ≤ 1099511627776) (hl : 200 < len) :
    Calls Try.prog 4 #[.int .i64 c, .slice b len cap] w fun e w' => e = .returned (.bool true) ∧ Below w.heap.size w w' := by
  have h1 : decide (c < 0) = false := by simp; omega
  have h2 : decide (1099511627776 < c) = false := by simp; omega
  have h3 : decide ((200 : Int) < (len : Int)) = true := by simp; omega
  go_enter Try.func4, Try.ntmps4
  go_wp2_with fail
  refine (new_ok c _ hc0 hc1).mono ?_
  rintro e w1 ⟨rfl, _, hb1⟩
  go_wp2_with fail
  refine (alive_any _).mono ?_
  rintro e w2 ⟨rfl, hb2⟩
  go_wp2
  go_ret
  exact ⟨rfl, (((Ch.refl (fun _ => False) w).call hb1).call hb2).below⟩

/-- At the inner loop's head. -/
def AllIn (w0 : World) (bs : List Nat) (sts : List Sn) (v7 v8 v93 : Value) (w : World) : Prop :=
  ∃ i : Nat, i ≤ sts.length ∧ v93 = .int .i64 i ∧ SesRow w w0.heap.size v7 bs sts ∧ RefRow w w0.heap.size v8 sts ∧ Ch (fun _ => False) w0 w

attribute [local go_sem high] eqTok eqRefTok eqAns
attribute [local go_sem] AnsD.cells
theorem SesRow.apart {w : World} {b1 b2 : Nat} {v v' : Value} {bs : List Nat} {sts sts' : List Sn} (h : SesRow w b1 v bs sts) (h' : RefRow w b2 v' sts') (g : Nat) (hg : v'.ownBlock = some g) : ¬ (g ∈ bs ∨ v.ownBlock = some g) := by
  rcases h'.own.2 with ⟨h2, _⟩ | ⟨g', cap, cur, hv, _, hh, _⟩
  · rw [h2] at hg; simp [Value.ownBlock] at hg
  · rw [hv] at hg
    obtain rfl : g' = g := by simpa [Value.ownBlock] using hg
    rintro (e | e)
    · obtain ⟨i, hi, rfl⟩ := List.getElem_of_mem e
      have hi2 : i < sts.length := by rw [← h.len]; exact hi
      have h3 : w.heap[bs[i]]? = _ := h.ses i _ _ (List.getElem?_eq_getElem hi) (List.getElem?_eq_getElem hi2)
      rw [hh] at h3
      simp at h3
    · rcases h.own.2 with ⟨h2, _⟩ | ⟨g3, cap3, cur3, hv3, _, hh3, _⟩
      · rw [h2] at e; simp [Value.ownBlock] at e
      · rw [hv3] at e
        obtain rfl : g3 = g' := by simpa [Value.ownBlock] using e
        rw [hh] at hh3
        simp at hh3
theorem SesRow.geOwn {w : World} {b1 : Nat} {v : Value} {bs : List Nat} {sts : List Sn} (h : SesRow w b1 v bs sts) {g : Nat} (e : v.ownBlock = some g) : b1 ≤ g := by
  rcases h.own.2 with ⟨h2, _⟩ | ⟨g3, cap3, cur3, hv3, hg3, _⟩
  · rw [h2] at e; simp [Value.ownBlock] at e
  · rw [hv3] at e
    obtain rfl : g3 = g := by simpa [Value.ownBlock] using e
    exact hg3

/-- At the loop's head: j calls are done. -/
def All (w0 : World) (c : Int) (ops : List OpD) (v7 v8 v63 : Value) (w : World) : Prop :=
  ∃ (j : Nat) (bs : List Nat) (sts : List Sn), j ≤ ops.length ∧ v63 = .int .i64 j ∧ SesRow w w0.heap.size v7 bs sts ∧ RefRow w w0.heap.size v8 sts ∧ 1 ≤ sts.length ∧ sts.length ≤ j + 1 ∧ Small j sts ∧ Ch (fun _ => False) w0 w

set_option maxRecDepth 100000 in
set_option maxHeartbeats 8000000 in
theorem all_main (c : Int) (b : Option Addr) (cap : Nat) (ops : List OpD) (w : World) (hc0 : 0 ≤ c) (hc1 : c ≤ 1099511627776) (hl : ops.length ≤ 200) (hrow : RowAt w b 5 OpD.out ops) :
    Calls Try.prog 4 #[.int .i64 c, .slice b ops.length cap] w fun e w' => e = .returned (.bool true) ∧ Below w.heap.size w w' := by
  have h1 : decide (c < 0) = false := by simp; omega
  have h2 : decide (1099511627776 < c) = false := by simp; omega
  have h3 : decide ((200 : Int) < (ops.length : Int)) = false := by simp; omega
  have HROW := Lib.hid hrow
  clear hrow
  go_enter Try.func4, Try.ntmps4
  go_wp2_with fail
  refine (new_ok c _ hc0 hc1).mono ?_
  rintro e w1 ⟨rfl, S1, hb1⟩
  go_wp2_with fail
  have C0 : Ch (fun _ => False) w ((w1.alloc (.cells #[.pointer (some ⟨w.heap.size, 0, none⟩)] 30)).alloc (.cells #[.int .i64 c, .int .i64 0, .int .i64 0, .int .i64 0] 36)) := (((Ch.refl _ w).call hb1).alloc _).alloc _
  have SR0 : SesRow ((w1.alloc (.cells #[.pointer (some ⟨w.heap.size, 0, none⟩)] 30)).alloc (.cells #[.int .i64 c, .int .i64 0, .int .i64 0, .int .i64 0] 36)) w.heap.size (.slice (some ⟨w1.heap.size, 0, none⟩) 1 1) [w.heap.size] [⟨c, 0, 0, 0⟩] := by
    refine ⟨?_, rfl, by simp, ?_, ?_⟩
    · have := (World.ownsRow_lit (e := 30) (size := 1) (base := w.heap.size) w1 #[.pointer (some ⟨w.heap.size, 0, none⟩)] 1 (by have := hb1.size; omega) (by simp [maxLen]) (by simp)).alloc (.cells #[.int .i64 c, .int .i64 0, .int .i64 0, .int .i64 0] 36)
      simpa [ptrV] using this
    · intro i b s hb hs
      match i, hb with
      | 0, hb =>
        simp at hb hs
        subst hb hs
        exact (S1.alloc _).alloc _
      | i + 1, hb => simp at hb
    · simp
  have RR0 : RefRow ((w1.alloc (.cells #[.pointer (some ⟨w.heap.size, 0, none⟩)] 30)).alloc (.cells #[.int .i64 c, .int .i64 0, .int .i64 0, .int .i64 0] 36)) w.heap.size (.slice (some ⟨w1.heap.size + 1, 0, none⟩) 1 1) [⟨c, 0, 0, 0⟩] := by
    have := World.ownsRow_lit (e := 36) (size := 4) (base := w.heap.size) (w1.alloc (.cells #[.pointer (some ⟨w.heap.size, 0, none⟩)] 30)) #[.int .i64 c, .int .i64 0, .int .i64 0, .int .i64 0] 1 (by have := hb1.size; simp; omega) (by simp [maxLen]) (by simp)
    exact ⟨by simpa [Sn.out] using this⟩
  have HC0 := Lib.hid C0
  have HS0 := Lib.hid SR0
  have HR0 := Lib.hid RR0
  clear C0 SR0 RR0 S1 hb1
  go_loopw [7, 8, 63] (fun v7 v8 v63 wr => All w c ops v7 v8 v63 wr) (fun _ _ i _ => ops.length - (intOf i).toNat)
  case atStart => exact ⟨0, [w.heap.size], [⟨c, 0, 0, 0⟩], Nat.zero_le _, rfl, HS0.out, HR0.out, by simp, by simp, by intro s hs; simp at hs; subst hs; simp, HC0.out⟩
  case round =>
    obtain ⟨j, bs, sts, hj, rfl, hS, hR, hn1, hn2, hm, hC⟩ := hrel
    have KS := Lib.hid hS
    have KR := Lib.hid hR
    have KC := Lib.hid hC
    have KM := Lib.hid hm
    have hlens := hS.len
    clear HC0 HS0 HR0 hS hR hC hm
    by_cases hlt : j < ops.length
    · have ht : decide ((j : Int) < (ops.length : Int)) = true := by simpa using hlt
      obtain ⟨o, ho⟩ : ∃ o, ops[j]? = some o := ⟨_, List.getElem?_eq_getElem hlt⟩
      obtain ⟨b0, off, rfl, hb0, hcells⟩ := HROW.out j o ho
      have q0 : wr.cell? ⟨b0, off + j * 5, none⟩ = some (.int .i64 o.k) := (KC.out.below.cell (p := ⟨b0, _, none⟩) hb0).trans (hcells 0 _ rfl)
      have q1 : wr.cell? ⟨b0, off + j * 5 + 1, none⟩ = some (.int .i64 o.who) := (KC.out.below.cell (p := ⟨b0, _, none⟩) hb0).trans (hcells 1 _ rfl)
      have q2 : wr.cell? ⟨b0, off + j * 5 + 2, none⟩ = some (.int .i64 o.x) := (KC.out.below.cell (p := ⟨b0, _, none⟩) hb0).trans (hcells 2 _ rfl)
      have q3 : wr.cell? ⟨b0, off + j * 5 + 3, none⟩ = some (.int .i64 o.a1) := (KC.out.below.cell (p := ⟨b0, _, none⟩) hb0).trans (hcells 3 _ rfl)
      have q4 : wr.cell? ⟨b0, off + j * 5 + 4, none⟩ = some (.int .i64 o.a2) := (KC.out.below.cell (p := ⟨b0, _, none⟩) hb0).trans (hcells 4 _ rfl)
      clear hcells
      have hoff : wr.heap.size < (wr.alloc (.cells o.cells 39)).heap.size := by simp
      have C1 := KC.out.alloc (.cells o.cells 39)
      have S1 := KS.out.below (below1 wr (.cells o.cells 39))
      have R1 := KR.out.below ((Ch.refl (fun _ => False) wr).alloc (.cells o.cells 39)) (fun _ _ => id)
      have B1 : Blk (wr.alloc (.cells o.cells 39)) wr.heap.size #[.int .i64 o.k, .int .i64 o.who, .int .i64 o.x, .int .i64 o.a1, .int .i64 o.a2] 39 := Blk.new wr o.cells 39
      have hls : sts.length ≤ 1000 := by omega
      have hms : Small 1000 sts := fun s hs => ⟨(KM.out s hs).1, by have := (KM.out s hs).2; omega⟩
      have hlts := KS.out.lts
      obtain ⟨sts', a, hr⟩ : ∃ sts' a, doF sts o = (sts', a) := ⟨_, _, rfl⟩
      obtain ⟨hsm, hup1, hup2⟩ : Small ((j : Int) + 1) sts' ∧ sts'.length ≤ sts.length + 1 ∧ sts.length ≤ sts'.length := by
        have := doF_small o KM.out (by omega)
        rw [hr] at this
        exact this
      obtain ⟨ae, ac, an⟩ := a
      have HSM := Lib.hid hsm
      have D := Lib.hid (do_any w.heap.size u8 sts o _ R1 hls (by have := C1.size; omega) hms)
      have HC1 := Lib.hid C1
      have HS1 := Lib.hid S1
      have HB1 := Lib.hid B1
      have HMS := Lib.hid hms
      rw [hr] at D
      clear C1 S1 R1 B1 hms KR KS KC hsm
      go_wp2_with fail
      refine D.out.mono ?_
      rintro e w2 ⟨v8', rfl, R2, hb2⟩
      have C2 := HC1.out.call hb2
      have S2 := HS1.out.below hb2
      have B2 := HB1.out.below hb2
      have hz2 : wr.heap.size < w2.heap.size := Nat.lt_of_lt_of_le hoff hb2.size
      have C3 := Lib.hid (C2.alloc (.cells #[.int .i64 ae, .int .i64 ac, .int .i64 an] 43))
      have S3 := Lib.hid (S2.below (below1 w2 (.cells #[.int .i64 ae, .int .i64 ac, .int .i64 an] 43)))
      have R3 := Lib.hid (R2.alloc (.cells #[.int .i64 ae, .int .i64 ac, .int .i64 an] 43))
      have B3 := B2.alloc (.cells #[.int .i64 ae, .int .i64 ac, .int .i64 an] 43)
      have A3 := Lib.hid (Blk.new w2 #[.int .i64 ae, .int .i64 ac, .int .i64 an] 43)
      have hap := Lib.hid (S3.out.apart R3.out)
      have E := does_any w.heap.size u7 bs sts o _ S3.out hls (by have := C3.out.size; omega) HMS.out
      rw [hr] at E
      have HE := Lib.hid E
      obtain ⟨b1, b2⟩ := B3.cells
      clear D C2 S2 R2 B2 hb2 HC1 HS1 HB1 B3 E hr
      go_wp2_with fail
      refine HE.out.mono ?_
      rintro e w4 ⟨v7', bs', _, rfl, S4, c4⟩
      have C4 := C3.out.step c4 (fun k hk e => by
        rcases e with e | e
        · have := S3.out.ge k e; omega
        · have := S3.out.geOwn e; omega)
      have R4 := R3.out.below c4 (fun g hg => hap.out g hg)
      have A4 := A3.out.ch c4 (fun e => by
        rcases e with e | e
        · have := hlts.1 _ e; omega
        · have := hlts.2 _ e; omega)
      have hpos : 0 < sts'.length := by omega
      obtain ⟨s0, hs0⟩ : ∃ s0, sts'[0]? = some s0 := ⟨_, List.getElem?_eq_getElem hpos⟩
      obtain ⟨g7, cap7, _, rfl, _⟩ := S4.at hs0
      obtain ⟨g8, cap8, rfl, _⟩ := R4.at hs0
      have hlen := S4.len
      rw [hlen] at S4 ⊢
      have A5 := A4.alloc (.cells #[.int .i64 ae, .int .i64 ac, .int .i64 an] 43)
      have N5 := Blk.new w4 #[.int .i64 ae, .int .i64 ac, .int .i64 an] 43
      have S5 := Lib.hid (S4.below (below1 w4 (.cells #[.int .i64 ae, .int .i64 ac, .int .i64 an] 43)))
      have R5 := Lib.hid (R4.alloc (.cells #[.int .i64 ae, .int .i64 ac, .int .i64 an] 43))
      have C5 := Lib.hid (C4.alloc (.cells #[.int .i64 ae, .int .i64 ac, .int .i64 an] 43))
      obtain ⟨r1, r2⟩ := A5.cells
      obtain ⟨r3, r4⟩ := N5.cells
      clear HE C3 S3 R3 A3 C4 R4 A4 S4 A5 N5 c4 hap q0 q1 q2 q3 q4 b1 b2 hlts
      go_wp2_with fail
      clear r1 r2 r3 r4
      go_loopw [93] (fun v93 wi => AllIn w bs' sts' (.slice (some ⟨g7, 0, none⟩) sts'.length cap7) (.slice (some ⟨g8, 0, none⟩) sts'.length cap8) v93 wi) (fun i _ => sts'.length - (intOf i).toNat)
      case atStart => exact ⟨0, Nat.zero_le _, rfl, S5.out, R5.out, C5.out⟩
      case round =>
        obtain ⟨i, hi, rfl, S6, R6, C6⟩ := hrel
        have KS6 := Lib.hid S6
        have KR6 := Lib.hid R6
        have KC6 := Lib.hid C6
        clear S5 R5 C5
        by_cases hlt2 : i < sts'.length
        · have hti : decide ((i : Int) < (sts'.length : Int)) = true := by simpa using hlt2
          have hti2 : decide (sts'.length ≤ i) = false := by simpa using hlt2
          obtain ⟨s, hs⟩ : ∃ s, sts'[i]? = some s := ⟨_, List.getElem?_eq_getElem hlt2⟩
          obtain ⟨g7', cap7', bb, he7, hg7, _, _, hc7, hses, _, _⟩ := S6.at hs
          obtain ⟨g8', cap8', he8, hg8, _, hc8, _⟩ := R6.at hs
          rw [S6.len] at he7
          simp at he7 he8
          obtain ⟨rfl, rfl⟩ := he7
          obtain ⟨rfl, rfl⟩ := he8
          have HT := Lib.hid (fun x : Later wr => token_any bb s.c s.m s.t s.n x.w (hses.later x))
          have t1 : ∀ x : Later wr, x.w.cell? ⟨g7, i, none⟩ = some (.pointer (some ⟨bb, 0, none⟩)) := fun x => (x.h.cell (p := ⟨g7, i, none⟩) hg7).trans hc7
          have t2 : ∀ x : Later wr, x.w.cell? ⟨g8, i * 4 + 2, none⟩ = some (.int .i64 s.t) := fun x => (x.h.cell (p := ⟨g8, i * 4 + 2, none⟩) hg8).trans (hc8 2 (by omega))
          have t3 : ∀ x : Later wr, x.w.cell? ⟨g8, i * 4 + 3, none⟩ = some (.int .i64 s.n) := fun x => (x.h.cell (p := ⟨g8, i * 4 + 3, none⟩) hg8).trans (hc8 3 (by omega))
          clear S6 R6 C6 hc7 hc8 hses hg7 hg8 hs
          go_wp2_with fail
          refine wp_region_later (by kernel_rfl) (by kernel_rfl) ?_
          repeat (go_big_quiet_step (first | (go_at_call 15; exact Calls.later (HT.out _))))
          refine wpQuiet_nil ?_
          rintro _ ⟨x, rfl⟩
          go_wp2_with fail
          go_roundw
          case rel => exact ⟨i + 1, hlt2, by simp, KS6.out.below x.h, KR6.out.below (Ch.of_below (fun _ => False) x.h) (fun _ _ => id), KC6.out.call x.h⟩
          case measure => simp only [intOf]; omega
        · have hti : decide ((i : Int) < (sts'.length : Int)) = false := by simpa using hlt2
          clear S6 R6 C6
          go_wp2_with fail
          go_roundw
          case rel => exact ⟨j + 1, bs', sts', hlt, by simp, KS6.out, KR6.out, by omega, by omega, HSM.out, KC6.out⟩
          case measure => simp only [intOf]; omega
    · have ht : decide ((j : Int) < (ops.length : Int)) = false := by simpa using hlt
      go_wp2_with fail
      refine (alive_any _).mono ?_
      rintro e w2 ⟨rfl, hb2⟩
      go_wp2
      go_ret
      exact ⟨rfl, (KC.out.call hb2).below⟩

/-- SessionAll answers true. -/
theorem all_row (c : Int) (b : Option Addr) (cap : Nat) (ops : List OpD) (w : World) (_ : (Lit.int .i64 c).wf = true) (hlc : ops.length ≤ cap) (hro : RowAt w b 5 OpD.out ops) (_ : ∀ o ∈ ops, True) (hsz : ops.length * 40 ≤ 140737488351232) :
    Calls Try.prog 4 #[.int .i64 c, .slice b ops.length cap] w fun e w' => e = .returned (.bool true) ∧ Below w.heap.size w w' := by
  cases hc : decide (0 ≤ c) && decide (c ≤ 1099511627776) with
  | false => exact all_bad c b ops.length cap w hc
  | true =>
    simp at hc
    by_cases hl : 200 < ops.length
    · exact all_long c b ops.length cap w hc.1 hc.2 hl
    · exact all_main c b cap ops w hc.1 hc.2 (by omega) hro
end Go.Proofs.Ytjilfmphdncapaa
