/- SessionRises: the walk. -/
import Derived.Test.YtjilfmphdncapaaSesRisesF
import Derived.Test.YtjilfmphdncapaaSesAllW
import Derived.Deep.AppendLies
set_option linter.unusedVariables false
set_option linter.unusedSimpArgs false
namespace Go.Proofs.Ytjilfmphdncapaa
open Go.RowKit

/-- A token's cells. -/
def tokOut (s : Sn) : List Value := [.int .i64 s.t, .int .i64 s.n]
/-- A row of tokens of the call's own: what the sessions saw. -/
def TRow (w : World) (base : Nat) (v : Value) (sts : List Sn) : Prop := w.ownsRow base 24 2 v sts.length (sts.flatMap tokOut)
theorem infoTok : (Try.prog.info? 24).map (fun i => (i.zero, i.size, i.bytes)) = some (some (.agg #[.int .i64 0, .int .i64 0]), 2, 16) := by kernel_rfl
theorem TRow.ch {w w1 : World} {base : Nat} {v : Value} {sts : List Sn} {S : Nat → Prop} (h : TRow w base v sts) (hc : Ch S w w1) (hv : ∀ g, v.ownBlock = some g → ¬ S g) : TRow w1 base v sts :=
  ⟨h.1, by
    rcases h.2 with h2 | ⟨g, cap, cur, e, hg, hh, r⟩
    · exact .inl h2
    · exact .inr ⟨g, cap, cur, e, hg, (hc.block g (lt_of_block hh) (hv g (by rw [e]; rfl))).trans hh, r⟩⟩
theorem TRow.below {w w1 : World} {base : Nat} {v : Value} {sts : List Sn} (h : TRow w base v sts) (hb : Below w.heap.size w w1) : TRow w1 base v sts := h.ch (Ch.of_below (fun _ => False) hb) (fun _ _ => id)
theorem TRow.lt {w : World} {base : Nat} {v : Value} {sts : List Sn} (h : TRow w base v sts) {g : Nat} (e : v.ownBlock = some g) : base ≤ g ∧ g < w.heap.size := by
  rcases h.2 with ⟨h2, _⟩ | ⟨g3, cap3, cur3, hv3, hg3, hh, _⟩
  · rw [h2] at e; simp [Value.ownBlock] at e
  · rw [hv3] at e
    obtain rfl : g3 = g := by simpa [Value.ownBlock] using e
    exact ⟨hg3, lt_of_block hh⟩
theorem TRow.at {w : World} {base : Nat} {v : Value} {sts : List Sn} (h : TRow w base v sts) {i : Nat} {s : Sn} (hi : sts[i]? = some s) :
    ∃ g cap, v = .slice (some ⟨g, 0, none⟩) sts.length cap ∧ g < w.heap.size ∧ base ≤ g ∧ w.cell? ⟨g, i * 2, none⟩ = some (.int .i64 s.t) ∧ w.cell? ⟨g, i * 2 + 1, none⟩ = some (.int .i64 s.n) := by
  have hlt := (List.getElem?_eq_some_iff.1 hi).1
  rcases h.2 with ⟨_, h0⟩ | ⟨g, cap, cur, hv, hg, hh, hn, hc, hsz, htake⟩
  · omega
  · subst hv
    refine ⟨g, cap, rfl, lt_of_block hh, hg, ?_, ?_⟩
    · have := h.cellAt (i * 2 + 0) (by omega)
      rw [show i * 2 = i * 2 + 0 from rfl, this, flat_get (out := tokOut) (sz := 2) (fun _ => rfl) (by omega) sts i s hi]
      rfl
    · rw [h.cellAt (i * 2 + 1) (by omega), flat_get (out := tokOut) (sz := 2) (fun _ => rfl) (by omega) sts i s hi]
      rfl
theorem TRow.nil (w : World) (base : Nat) : TRow w base (.slice none 0 0) [] := World.ownsRow_nil _ _ _ _

/-- At the outer loop's head. -/
def Rises (w0 : World) (ops : List OpD) (v7 v37 : Value) (w : World) : Prop :=
  ∃ (j : Nat) (bs : List Nat) (sts : List Sn), j ≤ ops.length ∧ v37 = .int .i64 j ∧ SesRow w w0.heap.size v7 bs sts ∧ 1 ≤ sts.length ∧ sts.length ≤ j + 1 ∧ Small j sts ∧ Ch (fun _ => False) w0 w
/-- At the head of the loop that keeps what was seen: ts are through. -/
def WasAt (wI : World) (sts : List Sn) (v10 v43 : Value) (w : World) : Prop :=
  ∃ ts rest : List Sn, sts = ts ++ rest ∧ v43 = .int .i64 ts.length ∧ TRow w wI.heap.size v10 ts ∧ Ch (fun _ => False) wI w
theorem TRow.push {w5 : World} {base g5 cap5 : Nat} {ts : List Sn} {s : Sn} (h : w5.ownsRow base 24 2 (.slice (some ⟨g5, 0, none⟩) (ts.length + 1) cap5) (ts.length + 1) (ts.flatMap tokOut ++ [.int .i64 s.t, .int .i64 s.n])) :
    TRow w5 base (.slice (some ⟨g5, 0, none⟩) (ts.length + 1) cap5) (ts ++ [s]) := by
  unfold TRow
  rw [List.length_append, List.flatMap_append]
  simpa [tokOut] using h
theorem tok_one (ts : List Sn) : ∀ u ∈ ts.flatMap tokOut, u.oneCell' = true := by
  intro u hu
  obtain ⟨s, _, h⟩ := List.mem_flatMap.1 hu
  simp [tokOut] at h
  rcases h with rfl | rfl <;> rfl
/-- At the head of the loop that compares. -/
def LessAt (wI : World) (n : Nat) (v62 : Value) (w : World) : Prop :=
  ∃ i : Nat, i ≤ n ∧ v62 = .int .i64 i ∧ Ch (fun _ => False) wI w

set_option maxRecDepth 100000 in
set_option maxHeartbeats 4000000 in
theorem rises_bad (c : Int) (b : Option Addr) (len cap : Nat) (w : World) (hc : (decide (0 ≤ c) && decide (c ≤ 1099511627776)) = false) :
    Calls Try.prog 5 #[.int .i64 c, .slice b len cap] w fun e w' => e = .returned (.bool true) ∧ Below w.heap.size w w' := by
  have HC := Lib.hid hc
  clear hc
  go_enter Try.func5, Try.ntmps5
  go_wp2_with fail
  refine (new_bad c _ HC.out).mono ?_
  rintro e w1 ⟨rfl, hb1⟩
  go_wp2_with fail
  refine (alive_any _).mono ?_
  rintro e w2 ⟨rfl, hb2⟩
  go_wp2
  go_ret
  exact ⟨rfl, (((Ch.refl (fun _ => False) w).call hb1).call hb2).below⟩

set_option maxRecDepth 100000 in
set_option maxHeartbeats 4000000 in
theorem rises_long (c : Int) (b : Option Addr) (len cap : Nat) (w : World) (hc0 : 0 ≤ c) (hc1 : c ≤ 1099511627776) (hl : 200 < len) :
    Calls Try.prog 5 #[.int .i64 c, .slice b len cap] w fun e w' => e = .returned (.bool true) ∧ Below w.heap.size w w' := by
  have h3 : decide ((200 : Int) < (len : Int)) = true := by simp; omega
  go_enter Try.func5, Try.ntmps5
  go_wp2_with fail
  refine (new_ok c _ hc0 hc1).mono ?_
  rintro e w1 ⟨rfl, _, hb1⟩
  go_wp2_with fail
  refine (alive_any _).mono ?_
  rintro e w2 ⟨rfl, hb2⟩
  go_wp2
  go_ret
  exact ⟨rfl, (((Ch.refl (fun _ => False) w).call hb1).call hb2).below⟩

attribute [local go_sem high] eqTok eqRefTok
attribute [local go_sem] AnsD.cells
set_option maxRecDepth 100000 in
set_option maxHeartbeats 8000000 in
theorem rises_main (c : Int) (b : Option Addr) (cap : Nat) (ops : List OpD) (w : World) (hc0 : 0 ≤ c) (hc1 : c ≤ 1099511627776) (hl : ops.length ≤ 200) (hrow : RowAt w b 5 OpD.out ops) :
    Calls Try.prog 5 #[.int .i64 c, .slice b ops.length cap] w fun e w' => e = .returned (.bool true) ∧ Below w.heap.size w w' := by
  have h3 : decide ((200 : Int) < (ops.length : Int)) = false := by simp; omega
  have HROW := Lib.hid hrow
  clear hrow
  go_enter Try.func5, Try.ntmps5
  go_wp2_with fail
  refine (new_ok c _ hc0 hc1).mono ?_
  rintro e w1 ⟨rfl, S1, hb1⟩
  go_wp2_with fail
  have SR0 : SesRow (w1.alloc (.cells #[.pointer (some ⟨w.heap.size, 0, none⟩)] 30)) w.heap.size (.slice (some ⟨w1.heap.size, 0, none⟩) 1 1) [w.heap.size] [⟨c, 0, 0, 0⟩] := by
    refine ⟨?_, rfl, by simp, ?_, ?_⟩
    · have := World.ownsRow_lit (e := 30) (size := 1) (base := w.heap.size) w1 #[.pointer (some ⟨w.heap.size, 0, none⟩)] 1 (by have := hb1.size; omega) (by simp [maxLen]) (by simp)
      simpa [ptrV] using this
    · intro i b s hb hs
      match i, hb with
      | 0, hb =>
        simp at hb hs
        subst hb hs
        exact S1.alloc _
      | i + 1, hb => simp at hb
    · simp
  have HS0 := Lib.hid SR0
  have HC0 := Lib.hid (((Ch.refl (fun _ => False) w).call hb1).alloc (.cells #[.pointer (some ⟨w.heap.size, 0, none⟩)] 30))
  obtain ⟨i0, hinfo, hz0, hz1, hz2⟩ := info_parts infoTok
  have HINFO := Lib.hid (And.intro hinfo (And.intro hz0 (And.intro hz1 hz2)))
  clear SR0 S1 hb1 hinfo hz0 hz1 hz2
  go_loopw [7, 37] (fun v7 v37 wr => Rises w ops v7 v37 wr) (fun _ i _ => ops.length - (intOf i).toNat)
  case atStart => exact ⟨0, [w.heap.size], [⟨c, 0, 0, 0⟩], Nat.zero_le _, rfl, HS0.out, by simp, by simp, by intro s hs; simp at hs; subst hs; simp, HC0.out⟩
  case round =>
    obtain ⟨j, bs, sts, hj, rfl, hS, hn1, hn2, hm, hC⟩ := hrel
    have KS := Lib.hid hS
    have KC := Lib.hid hC
    have KM := Lib.hid hm
    clear HC0 HS0 hS hC hm
    by_cases hlt : j < ops.length
    · have ht : decide ((j : Int) < (ops.length : Int)) = true := by simpa using hlt
      obtain ⟨o, ho⟩ : ∃ o, ops[j]? = some o := ⟨_, List.getElem?_eq_getElem hlt⟩
      obtain ⟨b0, off, rfl, hb0, hcells⟩ := HROW.out j o ho
      have q0 : wr.cell? ⟨b0, off + j * 5, none⟩ = some (.int .i64 o.k) := (KC.out.below.cell (p := ⟨b0, _, none⟩) hb0).trans (hcells 0 _ rfl)
      have q1 : wr.cell? ⟨b0, off + j * 5 + 1, none⟩ = some (.int .i64 o.who) := (KC.out.below.cell (p := ⟨b0, _, none⟩) hb0).trans (hcells 1 _ rfl)
      have q2 : wr.cell? ⟨b0, off + j * 5 + 2, none⟩ = some (.int .i64 o.x) := (KC.out.below.cell (p := ⟨b0, _, none⟩) hb0).trans (hcells 2 _ rfl)
      have q3 : wr.cell? ⟨b0, off + j * 5 + 3, none⟩ = some (.int .i64 o.a1) := (KC.out.below.cell (p := ⟨b0, _, none⟩) hb0).trans (hcells 3 _ rfl)
      have q4 : wr.cell? ⟨b0, off + j * 5 + 4, none⟩ = some (.int .i64 o.a2) := (KC.out.below.cell (p := ⟨b0, _, none⟩) hb0).trans (hcells 4 _ rfl)
      clear hcells
      obtain ⟨wI, hwI⟩ : ∃ wI, wI = wr.alloc (.cells o.cells 39) := ⟨_, rfl⟩
      have C1 := KC.out.alloc (.cells o.cells 39)
      have S1 := KS.out.below (below1 wr (.cells o.cells 39))
      have B1 : Blk (wr.alloc (.cells o.cells 39)) wr.heap.size #[.int .i64 o.k, .int .i64 o.who, .int .i64 o.x, .int .i64 o.a1, .int .i64 o.a2] 39 := Blk.new wr o.cells 39
      have hszI : wI.heap.size = wr.heap.size + 1 := by rw [hwI]; simp
      rw [← hwI] at C1 S1 B1
      have hlts := KS.out.lts
      have hnn := KS.out.len
      obtain ⟨s0, hs0⟩ : ∃ s0, sts[0]? = some s0 := ⟨_, List.getElem?_eq_getElem (by omega)⟩
      obtain ⟨g7, cap7, _, rfl, hg7, _⟩ := S1.at hs0
      rw [hnn] at S1 ⊢
      have HS1 := Lib.hid S1
      have HC1 := Lib.hid C1
      have HB1 := Lib.hid B1
      have HWI := Lib.hid hwI
      clear C1 S1 B1 KS KC
      go_wp2_with fail
      go_loopw [10, 43] (fun v10 v43 wi => WasAt wI sts v10 v43 wi) (fun _ i _ => sts.length - (intOf i).toNat)
      case atStart => exact ⟨[], sts, rfl, rfl, TRow.nil _ _, by rw [HWI.out]; exact Ch.refl _ _⟩
      case round =>
        obtain ⟨ts, rest, hts, rfl, T, C⟩ := hrel
        have HT := Lib.hid T
        have HC := Lib.hid C
        have HTS := Lib.hid hts
        have hszC := C.size
        clear T C hts q0 q1 q2 q3 q4
        cases rest with
        | cons s rest' =>
          have hsl : sts[ts.length]? = some s := by rw [HTS.out]; simp
          have hlt2 : ts.length < sts.length := (List.getElem?_eq_some_iff.1 hsl).1
          have hti : decide ((ts.length : Int) < (sts.length : Int)) = true := by simpa using hlt2
          have hti2 : decide (sts.length ≤ ts.length) = false := by simpa using hlt2
          obtain ⟨g7', cap7', bb, he7, hg7', _, _, hc7, hses, _, _⟩ := HS1.out.at hsl
          rw [HS1.out.len] at he7
          simp at he7
          obtain ⟨rfl, rfl⟩ := he7
          have t1 : wr.cell? ⟨g7, ts.length, none⟩ = some (.pointer (some ⟨bb, 0, none⟩)) := (HC.out.below.cell (p := ⟨g7, ts.length, none⟩) hg7).trans hc7
          have HK := Lib.hid (token_any bb s.c s.m s.t s.n wr (Blk.ch hses HC.out id))
          clear hc7 hses hg7' hsl
          go_wp2_with fail
          refine HK.out.mono ?_
          rintro e w3 ⟨rfl, hb3⟩
          have HC3 := Lib.hid (HC.out.call hb3)
          have HO := Lib.hid ((HT.out.below hb3).below (below1 w3 (.cells #[.int .i64 s.t, .int .i64 s.n] 24)))
          have HT3 := Lib.hid (fun g hg => (HT.out.below hb3).lt (g := g) hg)
          have hsz3 := HC3.out.size
          obtain ⟨hinfo, hz0, hz1, hz2⟩ := HINFO.out
          clear HK hb3 HT HC t1
          go_wp2_with (at_builtin; refine wpList_append_lies _ rfl (.tmp 47) (.tmp 50) 50 rfl wI.heap.size 24 i0 (.agg #[.int .i64 0, .int .i64 0]) 2 16 Try.underlying50 hinfo hz0 hz1 hz2 rfl (by decide) _ _ _ rfl HO.out ⟨w3.heap.size, 0, none⟩ 1 1 [.int .i64 s.t, .int .i64 s.n] rfl rfl ?c1 ?c2 (by decide) ?c3 ?c4 ?c5 (w3.heap.size + 1) (by simp) ?_)
          case c1 => exact World.news_of_block (cs := #[.int .i64 s.t, .int .i64 s.n]) (Blk.new w3 _ _)
          case c2 => intro u hu; simp at hu; rcases hu with rfl | rfl <;> rfl
          case c3 => unfold maxLen; omega
          case c4 => omega
          case c5 => simp; omega
          intro g5 cap5 w5 hown5 hgrow hg5 hlt5
          have HO5 := Lib.hid hown5
          have HG5 := Lib.hid hgrow
          clear hown5 hgrow hg5 hinfo hz0 hz1 hz2
          go_wp2_with fail
          go_roundw
          case rel => exact ⟨ts ++ [s], rest', by rw [HTS.out]; simp, by simp, TRow.push (by have h5 := HO5.out; rw [← hszI] at h5; exact h5), (HC3.out.alloc _).step (Ch.of_grown HG5.out) (fun k hk e => by have := (HT3.out k e.symm).1; omega)⟩
          case measure => simp only [intOf]; omega
        | nil =>
          have hts : sts = ts := by rw [HTS.out]; simp
          subst hts
          have hti : decide ((sts.length : Int) < (sts.length : Int)) = false := by simp
          have hls : sts.length ≤ 1000 := by omega
          have hms : Small 1000 sts := fun s hs => ⟨(KM.out s hs).1, by have := (KM.out s hs).2; omega⟩
          obtain ⟨sts', a, hr⟩ : ∃ sts' a, doF sts o = (sts', a) := ⟨_, _, rfl⟩
          obtain ⟨hsm, hup1, hup2⟩ : Small ((j : Int) + 1) sts' ∧ sts'.length ≤ sts.length + 1 ∧ sts.length ≤ sts'.length := by
            have := doF_small o KM.out (by omega)
            rw [hr] at this
            exact this
          have HA := Lib.hid (doF_rises sts o)
          have HB := Lib.hid (doF_read sts o)
          have HF := Lib.hid (doF_fork sts o)
          rw [hr] at HA HB HF
          obtain ⟨ae, ac, an⟩ := a
          have HSM := Lib.hid hsm
          have S2 := HS1.out.ch HC.out (fun _ _ => id) (fun _ _ => id)
          have E := does_any w.heap.size (.slice (some ⟨g7, 0, none⟩) sts.length cap7) bs sts o wr S2 hls (by have := HC1.out.size; omega) hms
          rw [hr] at E
          have HE := Lib.hid E
          have hge : ∀ k ∈ bs, w.heap.size ≤ k := HS1.out.ge
          have HGE := Lib.hid hge
          have hgo : w.heap.size ≤ g7 := HS1.out.geOwn (g := g7) rfl
          obtain ⟨q1, q2⟩ := (HB1.out.ch HC.out id).cells
          clear hsm E S2 hms hr hge HTS
          go_wp2_with fail
          refine HE.out.mono ?_
          rintro e w4 ⟨v7', bs', _, rfl, S4, c4⟩
          have hbI : ∀ k ∈ bs, k < wI.heap.size := HS1.out.lts.1
          have hoI : ∀ k, (Value.slice (some ⟨g7, 0, none⟩) sts.length cap7).ownBlock = some k → k = g7 := fun k e => by simpa [Value.ownBlock, eq_comm] using e
          have C4 := (HC1.out.trans HC.out).step c4 (fun k hk e => by
            rcases e with e | e
            · have := HGE.out k e; omega
            · have := hoI k e; omega)
          have T4 := HT.out.ch c4 (fun k hk e => by
            have h5 := (HT.out.lt hk).1
            rcases e with e | e
            · have := hbI k e; omega
            · have := hoI k e; omega)
          have B4 := (HB1.out.ch HC.out id).ch c4 (fun e => by
            rcases e with e | e
            · have := hlts.1 _ e; omega
            · have := hlts.2 _ e; omega)
          have hs0' := hs0
          obtain ⟨s0', hs0''⟩ : ∃ s0', sts'[0]? = some s0' := ⟨_, List.getElem?_eq_getElem (by omega)⟩
          obtain ⟨g8, cap8, _, rfl, hg8, _⟩ := S4.at hs0''
          obtain ⟨g9, cap9, rfl, hg9, hg9', _⟩ := T4.at hs0
          have hlen := S4.len
          rw [hlen] at S4 ⊢
          have B5 := B4.alloc (.cells #[.int .i64 ae, .int .i64 ac, .int .i64 an] 43)
          have N5 := Blk.new w4 #[.int .i64 ae, .int .i64 ac, .int .i64 an] 43
          have S5 := Lib.hid (S4.below (below1 w4 (.cells #[.int .i64 ae, .int .i64 ac, .int .i64 an] 43)))
          have T5 := Lib.hid (T4.below (below1 w4 (.cells #[.int .i64 ae, .int .i64 ac, .int .i64 an] 43)))
          have C5 := Lib.hid (C4.alloc (.cells #[.int .i64 ae, .int .i64 ac, .int .i64 an] 43))
          have HB5 := Lib.hid B5
          have HN5 := Lib.hid N5
          clear HE C4 T4 B4 S4 B5 N5 c4 hbI hoI HC1 HC HT HS1 HB1 HGE hlts hs0' q1 q2
          obtain ⟨wL, hwL⟩ : ∃ wL, wL = w4.alloc (.cells #[.int .i64 ae, .int .i64 ac, .int .i64 an] 43) := ⟨_, rfl⟩
          have HWL := Lib.hid hwL
          rw [← hwL] at S5 T5 C5 HB5 HN5
          clear hwL
          go_wp2_with fail
          go_loopw [62] (fun v62 wi => LessAt wL sts.length v62 wi) (fun i _ => sts.length - (intOf i).toNat)
          case atStart => exact ⟨0, Nat.zero_le _, rfl, by rw [HWL.out]; exact Ch.refl _ _⟩
          case round =>
            obtain ⟨i, hi, rfl, CL⟩ := hrel
            have HCL := Lib.hid CL
            clear CL
            by_cases hlt3 : i < sts.length
            · have hti3 : decide ((i : Int) < (sts.length : Int)) = true := by simpa using hlt3
              have hti4 : decide (sts.length ≤ i) = false := by simpa using hlt3
              have hti5 : decide (sts'.length ≤ i) = false := by simp; omega
              obtain ⟨s, hs⟩ : ∃ s, sts[i]? = some s := ⟨_, List.getElem?_eq_getElem hlt3⟩
              obtain ⟨s', hs'⟩ : ∃ s', sts'[i]? = some s' := ⟨_, List.getElem?_eq_getElem (by omega)⟩
              obtain ⟨g8', cap8', bb, he8, hg8', _, _, hc8, hses, _, _⟩ := S5.out.at hs'
              obtain ⟨g9', cap9', he9, hg9'', _, hca, hcb⟩ := T5.out.at hs
              rw [S5.out.len] at he8
              simp at he8 he9
              obtain ⟨rfl, rfl⟩ := he8
              obtain ⟨rfl, rfl⟩ := he9
              have hless := HA.out i s s' hs hs'
              have HT1 := Lib.hid (fun x : Later wr => token_any bb s'.c s'.m s'.t s'.n x.w (Blk.later (Blk.ch hses HCL.out id) x))
              have HL1 := Lib.hid (fun x : Later wr => less_any s'.t s'.n s.t s.n x.w)
              rw [hless] at HL1
              have t1 : ∀ x : Later wr, x.w.cell? ⟨g8, i, none⟩ = some (.pointer (some ⟨bb, 0, none⟩)) := fun x => ((HCL.out.below.trans (x.h.mono HCL.out.size)).cell (p := ⟨g8, i, none⟩) hg8').trans hc8
              have t2 : ∀ x : Later wr, x.w.cell? ⟨g9, i * 2, none⟩ = some (.int .i64 s.t) := fun x => ((HCL.out.below.trans (x.h.mono HCL.out.size)).cell (p := ⟨g9, i * 2, none⟩) hg9'').trans hca
              have t3 : ∀ x : Later wr, x.w.cell? ⟨g9, i * 2 + 1, none⟩ = some (.int .i64 s.n) := fun x => ((HCL.out.below.trans (x.h.mono HCL.out.size)).cell (p := ⟨g9, i * 2 + 1, none⟩) hg9'').trans hcb
              clear hc8 hses hg8' hg9'' hca hcb hs hs' hless
              go_wp2_with fail
              refine wp_region_later (by kernel_rfl) (by kernel_rfl) ?_
              repeat (go_big_quiet_step (first | (go_at_call 15; exact Calls.later (HT1.out _)) | (go_at_call 10; exact Calls.later (HL1.out _))))
              refine wpQuiet_nil ?_
              rintro _ ⟨x, rfl⟩
              go_wp2_with fail
              go_roundw
              case rel => exact ⟨i + 1, hlt3, by simp, HCL.out.call x.h⟩
              case measure => simp only [intOf]; omega
            · have hti3 : decide ((i : Int) < (sts.length : Int)) = false := by simpa using hlt3
              obtain ⟨b9, b9f⟩ := (HB5.out.ch HCL.out id).laterCells
              obtain ⟨b14, b14f⟩ := (HN5.out.ch HCL.out id).laterCells
              by_cases k0 : o.k = 0
              · have d0 : (o.k == 0) = true := by simp [k0]
                by_cases a0 : ae = 0
                · have d1 : (ae == 0) = true := by simp [a0]
                  by_cases w0 : 0 ≤ o.who
                  · have d2 : decide (0 ≤ o.who) = true := by simpa using w0
                    by_cases w1' : o.who < sts.length
                    · have d3 : decide (o.who < (sts.length : Int)) = true := by simpa using w1'
                      obtain ⟨i3, hi3⟩ : ∃ i3 : Nat, o.who = (i3 : Int) := ⟨o.who.toNat, by omega⟩
                      have hi4 : i3 < sts.length := by omega
                      obtain ⟨s, hs⟩ : ∃ s, sts[i3]? = some s := ⟨_, List.getElem?_eq_getElem hi4⟩
                      have hless := HB.out i3 s hi3 hs k0 a0
                      have hj1 : decide (sts.length ≤ i3) = false := by simp; omega
                      have hj2 : decide ((i3 : Int) < 0) = false := by simp
                      obtain ⟨g9', cap9', he9, hg9'', _, hca, hcb⟩ := T5.out.at hs
                      simp at he9
                      obtain ⟨rfl, rfl⟩ := he9
                      have HLS := Lib.hid (fun z : Later wr => less_any o.a1 o.a2 s.t s.n z.w)
                      rw [hless] at HLS
                      have t2 : ∀ z : Later wr, z.w.cell? ⟨g9, i3 * 2, none⟩ = some (.int .i64 s.t) := fun z => ((HCL.out.below.trans (z.h.mono HCL.out.size)).cell (p := ⟨g9, i3 * 2, none⟩) hg9'').trans hca
                      have t3 : ∀ z : Later wr, z.w.cell? ⟨g9, i3 * 2 + 1, none⟩ = some (.int .i64 s.n) := fun z => ((HCL.out.below.trans (z.h.mono HCL.out.size)).cell (p := ⟨g9, i3 * 2 + 1, none⟩) hg9'').trans hcb
                      rw [hi3] at b9 d2 d3
                      clear hca hcb hs hless hg9'' k0 a0 w0 w1' hi3
                      go_wp2_with fail
                      refine wp_region_later (by kernel_rfl) (by kernel_rfl) ?_
                      repeat (go_big_quiet_step (first | (go_at_call 10; exact Calls.later (HLS.out _)) | fail))
                      refine wpQuiet_nil ?_
                      rintro _ ⟨x, rfl⟩
                      clear t2 t3 HLS hj1 hj2
                      have CX := Lib.hid (HCL.out.call x.h)
                      clear b9 b9f b14 b14f HCL
                      by_cases hgr : sts.length < sts'.length
                      · have hg1 : decide (sts.length < sts'.length) = true := by simpa using hgr
                        obtain ⟨i2, s, s', hw, hs, hl1, hs', e1, e2⟩ := HF.out hgr
                        have hi2 : i2 < sts.length := (List.getElem?_eq_some_iff.1 hs).1
                        have hj1 : decide (sts.length ≤ i2) = false := by simp; omega
                        have hj2 : decide ((i2 : Int) < 0) = false := by simp
                        have hj3 : ((sts'.length : Int) - 1) = (sts.length : Int) := by omega
                        have hj4 : decide (sts'.length ≤ sts.length) = false := by simp; omega
                        obtain ⟨g8', cap8', bb, he8, hg8', _, _, hc8, hses, _, _⟩ := S5.out.at hs'
                        obtain ⟨g9', cap9', he9, hg9'', _, hca, hcb⟩ := T5.out.at hs
                        rw [S5.out.len] at he8
                        simp at he8 he9
                        obtain ⟨rfl, rfl⟩ := he8
                        obtain ⟨rfl, rfl⟩ := he9
                        rw [← e1] at hca
                        rw [← e2] at hcb
                        have HTK := Lib.hid (fun z : Later x.w => token_any bb s'.c s'.m s'.t s'.n z.w (Blk.later (Blk.ch hses CX.out id) z))
                        have HLS := HTK
                        have t1 : ∀ z : Later x.w, z.w.cell? ⟨g8, sts.length, none⟩ = some (.pointer (some ⟨bb, 0, none⟩)) := fun z => ((CX.out.below.trans (z.h.mono CX.out.size)).cell (p := ⟨g8, sts.length, none⟩) hg8').trans hc8
                        have t2 : ∀ z : Later x.w, z.w.cell? ⟨g9, i2 * 2, none⟩ = some (.int .i64 s'.t) := fun z => ((CX.out.below.trans (z.h.mono CX.out.size)).cell (p := ⟨g9, i2 * 2, none⟩) hg9'').trans hca
                        have t3 : ∀ z : Later x.w, z.w.cell? ⟨g9, i2 * 2 + 1, none⟩ = some (.int .i64 s'.n) := fun z => ((CX.out.below.trans (z.h.mono CX.out.size)).cell (p := ⟨g9, i2 * 2 + 1, none⟩) hg9'').trans hcb
                        obtain ⟨c9, c9f⟩ := ((HB5.out.ch CX.out id)).laterCells
                        rw [hw] at c9
                        clear hc8 hses hg8' hg9'' hca hcb hs hs' e1 e2 hl1
                        go_wp2_with fail
                        refine wp_region_later (by kernel_rfl) (by kernel_rfl) ?_
                        repeat (go_big_quiet_step (first | (go_at_call 15; exact Calls.later (HTK.out _)) | fail))
                        refine wpQuiet_nil ?_
                        rintro _ ⟨z, rfl⟩
                        go_wp2_with fail
                        go_roundw
                        case rel => exact ⟨j + 1, bs', sts', hlt, by simp, (S5.out.ch CX.out (fun _ _ => id) (fun _ _ => id)).below z.h, by omega, by omega, HSM.out, (C5.out.trans CX.out).call z.h⟩
                        case measure => simp only [intOf]; omega

                      · have hg1 : decide (sts.length < sts'.length) = false := by simpa using hgr
                        go_wp2_with fail
                        refine wp_region_later (by kernel_rfl) (by kernel_rfl) ?_
                        repeat (go_big_quiet_step (fail))
                        refine wpQuiet_nil ?_
                        rintro _ ⟨z, rfl⟩
                        go_wp2_with fail
                        go_roundw
                        case rel => exact ⟨j + 1, bs', sts', hlt, by simp, (S5.out.ch CX.out (fun _ _ => id) (fun _ _ => id)).below z.h, by omega, by omega, HSM.out, (C5.out.trans CX.out).call z.h⟩
                        case measure => simp only [intOf]; omega

                    · have d3 : decide (o.who < (sts.length : Int)) = false := by simpa using w1'
                      clear k0 a0 w0 w1'
                      go_wp2_with fail
                      refine wp_region_later (by kernel_rfl) (by kernel_rfl) ?_
                      repeat (go_big_quiet_step (fail))
                      refine wpQuiet_nil ?_
                      rintro _ ⟨x, rfl⟩
                      have CX := Lib.hid (HCL.out.call x.h)
                      clear b9 b9f b14 b14f HCL
                      by_cases hgr : sts.length < sts'.length
                      · have hg1 : decide (sts.length < sts'.length) = true := by simpa using hgr
                        obtain ⟨i2, s, s', hw, hs, hl1, hs', e1, e2⟩ := HF.out hgr
                        have hi2 : i2 < sts.length := (List.getElem?_eq_some_iff.1 hs).1
                        have hj1 : decide (sts.length ≤ i2) = false := by simp; omega
                        have hj2 : decide ((i2 : Int) < 0) = false := by simp
                        have hj3 : ((sts'.length : Int) - 1) = (sts.length : Int) := by omega
                        have hj4 : decide (sts'.length ≤ sts.length) = false := by simp; omega
                        obtain ⟨g8', cap8', bb, he8, hg8', _, _, hc8, hses, _, _⟩ := S5.out.at hs'
                        obtain ⟨g9', cap9', he9, hg9'', _, hca, hcb⟩ := T5.out.at hs
                        rw [S5.out.len] at he8
                        simp at he8 he9
                        obtain ⟨rfl, rfl⟩ := he8
                        obtain ⟨rfl, rfl⟩ := he9
                        rw [← e1] at hca
                        rw [← e2] at hcb
                        have HTK := Lib.hid (fun z : Later x.w => token_any bb s'.c s'.m s'.t s'.n z.w (Blk.later (Blk.ch hses CX.out id) z))
                        have HLS := HTK
                        have t1 : ∀ z : Later x.w, z.w.cell? ⟨g8, sts.length, none⟩ = some (.pointer (some ⟨bb, 0, none⟩)) := fun z => ((CX.out.below.trans (z.h.mono CX.out.size)).cell (p := ⟨g8, sts.length, none⟩) hg8').trans hc8
                        have t2 : ∀ z : Later x.w, z.w.cell? ⟨g9, i2 * 2, none⟩ = some (.int .i64 s'.t) := fun z => ((CX.out.below.trans (z.h.mono CX.out.size)).cell (p := ⟨g9, i2 * 2, none⟩) hg9'').trans hca
                        have t3 : ∀ z : Later x.w, z.w.cell? ⟨g9, i2 * 2 + 1, none⟩ = some (.int .i64 s'.n) := fun z => ((CX.out.below.trans (z.h.mono CX.out.size)).cell (p := ⟨g9, i2 * 2 + 1, none⟩) hg9'').trans hcb
                        obtain ⟨c9, c9f⟩ := ((HB5.out.ch CX.out id)).laterCells
                        rw [hw] at c9
                        clear hc8 hses hg8' hg9'' hca hcb hs hs' e1 e2 hl1
                        go_wp2_with fail
                        refine wp_region_later (by kernel_rfl) (by kernel_rfl) ?_
                        repeat (go_big_quiet_step (first | (go_at_call 15; exact Calls.later (HTK.out _)) | fail))
                        refine wpQuiet_nil ?_
                        rintro _ ⟨z, rfl⟩
                        go_wp2_with fail
                        go_roundw
                        case rel => exact ⟨j + 1, bs', sts', hlt, by simp, (S5.out.ch CX.out (fun _ _ => id) (fun _ _ => id)).below z.h, by omega, by omega, HSM.out, (C5.out.trans CX.out).call z.h⟩
                        case measure => simp only [intOf]; omega

                      · have hg1 : decide (sts.length < sts'.length) = false := by simpa using hgr
                        go_wp2_with fail
                        refine wp_region_later (by kernel_rfl) (by kernel_rfl) ?_
                        repeat (go_big_quiet_step (fail))
                        refine wpQuiet_nil ?_
                        rintro _ ⟨z, rfl⟩
                        go_wp2_with fail
                        go_roundw
                        case rel => exact ⟨j + 1, bs', sts', hlt, by simp, (S5.out.ch CX.out (fun _ _ => id) (fun _ _ => id)).below z.h, by omega, by omega, HSM.out, (C5.out.trans CX.out).call z.h⟩
                        case measure => simp only [intOf]; omega

                  · have d2 : decide (0 ≤ o.who) = false := by simpa using w0
                    clear k0 a0 w0
                    go_wp2_with fail
                    refine wp_region_later (by kernel_rfl) (by kernel_rfl) ?_
                    repeat (go_big_quiet_step (fail))
                    refine wpQuiet_nil ?_
                    rintro _ ⟨x, rfl⟩
                    have CX := Lib.hid (HCL.out.call x.h)
                    clear b9 b9f b14 b14f HCL
                    by_cases hgr : sts.length < sts'.length
                    · have hg1 : decide (sts.length < sts'.length) = true := by simpa using hgr
                      obtain ⟨i2, s, s', hw, hs, hl1, hs', e1, e2⟩ := HF.out hgr
                      have hi2 : i2 < sts.length := (List.getElem?_eq_some_iff.1 hs).1
                      have hj1 : decide (sts.length ≤ i2) = false := by simp; omega
                      have hj2 : decide ((i2 : Int) < 0) = false := by simp
                      have hj3 : ((sts'.length : Int) - 1) = (sts.length : Int) := by omega
                      have hj4 : decide (sts'.length ≤ sts.length) = false := by simp; omega
                      obtain ⟨g8', cap8', bb, he8, hg8', _, _, hc8, hses, _, _⟩ := S5.out.at hs'
                      obtain ⟨g9', cap9', he9, hg9'', _, hca, hcb⟩ := T5.out.at hs
                      rw [S5.out.len] at he8
                      simp at he8 he9
                      obtain ⟨rfl, rfl⟩ := he8
                      obtain ⟨rfl, rfl⟩ := he9
                      rw [← e1] at hca
                      rw [← e2] at hcb
                      have HTK := Lib.hid (fun z : Later x.w => token_any bb s'.c s'.m s'.t s'.n z.w (Blk.later (Blk.ch hses CX.out id) z))
                      have HLS := HTK
                      have t1 : ∀ z : Later x.w, z.w.cell? ⟨g8, sts.length, none⟩ = some (.pointer (some ⟨bb, 0, none⟩)) := fun z => ((CX.out.below.trans (z.h.mono CX.out.size)).cell (p := ⟨g8, sts.length, none⟩) hg8').trans hc8
                      have t2 : ∀ z : Later x.w, z.w.cell? ⟨g9, i2 * 2, none⟩ = some (.int .i64 s'.t) := fun z => ((CX.out.below.trans (z.h.mono CX.out.size)).cell (p := ⟨g9, i2 * 2, none⟩) hg9'').trans hca
                      have t3 : ∀ z : Later x.w, z.w.cell? ⟨g9, i2 * 2 + 1, none⟩ = some (.int .i64 s'.n) := fun z => ((CX.out.below.trans (z.h.mono CX.out.size)).cell (p := ⟨g9, i2 * 2 + 1, none⟩) hg9'').trans hcb
                      obtain ⟨c9, c9f⟩ := ((HB5.out.ch CX.out id)).laterCells
                      rw [hw] at c9
                      clear hc8 hses hg8' hg9'' hca hcb hs hs' e1 e2 hl1
                      go_wp2_with fail
                      refine wp_region_later (by kernel_rfl) (by kernel_rfl) ?_
                      repeat (go_big_quiet_step (first | (go_at_call 15; exact Calls.later (HTK.out _)) | fail))
                      refine wpQuiet_nil ?_
                      rintro _ ⟨z, rfl⟩
                      go_wp2_with fail
                      go_roundw
                      case rel => exact ⟨j + 1, bs', sts', hlt, by simp, (S5.out.ch CX.out (fun _ _ => id) (fun _ _ => id)).below z.h, by omega, by omega, HSM.out, (C5.out.trans CX.out).call z.h⟩
                      case measure => simp only [intOf]; omega

                    · have hg1 : decide (sts.length < sts'.length) = false := by simpa using hgr
                      go_wp2_with fail
                      refine wp_region_later (by kernel_rfl) (by kernel_rfl) ?_
                      repeat (go_big_quiet_step (fail))
                      refine wpQuiet_nil ?_
                      rintro _ ⟨z, rfl⟩
                      go_wp2_with fail
                      go_roundw
                      case rel => exact ⟨j + 1, bs', sts', hlt, by simp, (S5.out.ch CX.out (fun _ _ => id) (fun _ _ => id)).below z.h, by omega, by omega, HSM.out, (C5.out.trans CX.out).call z.h⟩
                      case measure => simp only [intOf]; omega

                · have d1 : (ae == 0) = false := by simp [a0]
                  clear k0 a0
                  go_wp2_with fail
                  refine wp_region_later (by kernel_rfl) (by kernel_rfl) ?_
                  repeat (go_big_quiet_step (fail))
                  refine wpQuiet_nil ?_
                  rintro _ ⟨x, rfl⟩
                  have CX := Lib.hid (HCL.out.call x.h)
                  clear b9 b9f b14 b14f HCL
                  by_cases hgr : sts.length < sts'.length
                  · have hg1 : decide (sts.length < sts'.length) = true := by simpa using hgr
                    obtain ⟨i2, s, s', hw, hs, hl1, hs', e1, e2⟩ := HF.out hgr
                    have hi2 : i2 < sts.length := (List.getElem?_eq_some_iff.1 hs).1
                    have hj1 : decide (sts.length ≤ i2) = false := by simp; omega
                    have hj2 : decide ((i2 : Int) < 0) = false := by simp
                    have hj3 : ((sts'.length : Int) - 1) = (sts.length : Int) := by omega
                    have hj4 : decide (sts'.length ≤ sts.length) = false := by simp; omega
                    obtain ⟨g8', cap8', bb, he8, hg8', _, _, hc8, hses, _, _⟩ := S5.out.at hs'
                    obtain ⟨g9', cap9', he9, hg9'', _, hca, hcb⟩ := T5.out.at hs
                    rw [S5.out.len] at he8
                    simp at he8 he9
                    obtain ⟨rfl, rfl⟩ := he8
                    obtain ⟨rfl, rfl⟩ := he9
                    rw [← e1] at hca
                    rw [← e2] at hcb
                    have HTK := Lib.hid (fun z : Later x.w => token_any bb s'.c s'.m s'.t s'.n z.w (Blk.later (Blk.ch hses CX.out id) z))
                    have HLS := HTK
                    have t1 : ∀ z : Later x.w, z.w.cell? ⟨g8, sts.length, none⟩ = some (.pointer (some ⟨bb, 0, none⟩)) := fun z => ((CX.out.below.trans (z.h.mono CX.out.size)).cell (p := ⟨g8, sts.length, none⟩) hg8').trans hc8
                    have t2 : ∀ z : Later x.w, z.w.cell? ⟨g9, i2 * 2, none⟩ = some (.int .i64 s'.t) := fun z => ((CX.out.below.trans (z.h.mono CX.out.size)).cell (p := ⟨g9, i2 * 2, none⟩) hg9'').trans hca
                    have t3 : ∀ z : Later x.w, z.w.cell? ⟨g9, i2 * 2 + 1, none⟩ = some (.int .i64 s'.n) := fun z => ((CX.out.below.trans (z.h.mono CX.out.size)).cell (p := ⟨g9, i2 * 2 + 1, none⟩) hg9'').trans hcb
                    obtain ⟨c9, c9f⟩ := ((HB5.out.ch CX.out id)).laterCells
                    rw [hw] at c9
                    clear hc8 hses hg8' hg9'' hca hcb hs hs' e1 e2 hl1
                    go_wp2_with fail
                    refine wp_region_later (by kernel_rfl) (by kernel_rfl) ?_
                    repeat (go_big_quiet_step (first | (go_at_call 15; exact Calls.later (HTK.out _)) | fail))
                    refine wpQuiet_nil ?_
                    rintro _ ⟨z, rfl⟩
                    go_wp2_with fail
                    go_roundw
                    case rel => exact ⟨j + 1, bs', sts', hlt, by simp, (S5.out.ch CX.out (fun _ _ => id) (fun _ _ => id)).below z.h, by omega, by omega, HSM.out, (C5.out.trans CX.out).call z.h⟩
                    case measure => simp only [intOf]; omega

                  · have hg1 : decide (sts.length < sts'.length) = false := by simpa using hgr
                    go_wp2_with fail
                    refine wp_region_later (by kernel_rfl) (by kernel_rfl) ?_
                    repeat (go_big_quiet_step (fail))
                    refine wpQuiet_nil ?_
                    rintro _ ⟨z, rfl⟩
                    go_wp2_with fail
                    go_roundw
                    case rel => exact ⟨j + 1, bs', sts', hlt, by simp, (S5.out.ch CX.out (fun _ _ => id) (fun _ _ => id)).below z.h, by omega, by omega, HSM.out, (C5.out.trans CX.out).call z.h⟩
                    case measure => simp only [intOf]; omega

              · have d0 : (o.k == 0) = false := by simp [k0]
                clear k0
                go_wp2_with fail
                refine wp_region_later (by kernel_rfl) (by kernel_rfl) ?_
                repeat (go_big_quiet_step (fail))
                refine wpQuiet_nil ?_
                rintro _ ⟨x, rfl⟩
                have CX := Lib.hid (HCL.out.call x.h)
                clear b9 b9f b14 b14f HCL
                by_cases hgr : sts.length < sts'.length
                · have hg1 : decide (sts.length < sts'.length) = true := by simpa using hgr
                  obtain ⟨i2, s, s', hw, hs, hl1, hs', e1, e2⟩ := HF.out hgr
                  have hi2 : i2 < sts.length := (List.getElem?_eq_some_iff.1 hs).1
                  have hj1 : decide (sts.length ≤ i2) = false := by simp; omega
                  have hj2 : decide ((i2 : Int) < 0) = false := by simp
                  have hj3 : ((sts'.length : Int) - 1) = (sts.length : Int) := by omega
                  have hj4 : decide (sts'.length ≤ sts.length) = false := by simp; omega
                  obtain ⟨g8', cap8', bb, he8, hg8', _, _, hc8, hses, _, _⟩ := S5.out.at hs'
                  obtain ⟨g9', cap9', he9, hg9'', _, hca, hcb⟩ := T5.out.at hs
                  rw [S5.out.len] at he8
                  simp at he8 he9
                  obtain ⟨rfl, rfl⟩ := he8
                  obtain ⟨rfl, rfl⟩ := he9
                  rw [← e1] at hca
                  rw [← e2] at hcb
                  have HTK := Lib.hid (fun z : Later x.w => token_any bb s'.c s'.m s'.t s'.n z.w (Blk.later (Blk.ch hses CX.out id) z))
                  have HLS := HTK
                  have t1 : ∀ z : Later x.w, z.w.cell? ⟨g8, sts.length, none⟩ = some (.pointer (some ⟨bb, 0, none⟩)) := fun z => ((CX.out.below.trans (z.h.mono CX.out.size)).cell (p := ⟨g8, sts.length, none⟩) hg8').trans hc8
                  have t2 : ∀ z : Later x.w, z.w.cell? ⟨g9, i2 * 2, none⟩ = some (.int .i64 s'.t) := fun z => ((CX.out.below.trans (z.h.mono CX.out.size)).cell (p := ⟨g9, i2 * 2, none⟩) hg9'').trans hca
                  have t3 : ∀ z : Later x.w, z.w.cell? ⟨g9, i2 * 2 + 1, none⟩ = some (.int .i64 s'.n) := fun z => ((CX.out.below.trans (z.h.mono CX.out.size)).cell (p := ⟨g9, i2 * 2 + 1, none⟩) hg9'').trans hcb
                  obtain ⟨c9, c9f⟩ := ((HB5.out.ch CX.out id)).laterCells
                  rw [hw] at c9
                  clear hc8 hses hg8' hg9'' hca hcb hs hs' e1 e2 hl1
                  go_wp2_with fail
                  refine wp_region_later (by kernel_rfl) (by kernel_rfl) ?_
                  repeat (go_big_quiet_step (first | (go_at_call 15; exact Calls.later (HTK.out _)) | fail))
                  refine wpQuiet_nil ?_
                  rintro _ ⟨z, rfl⟩
                  go_wp2_with fail
                  go_roundw
                  case rel => exact ⟨j + 1, bs', sts', hlt, by simp, (S5.out.ch CX.out (fun _ _ => id) (fun _ _ => id)).below z.h, by omega, by omega, HSM.out, (C5.out.trans CX.out).call z.h⟩
                  case measure => simp only [intOf]; omega

                · have hg1 : decide (sts.length < sts'.length) = false := by simpa using hgr
                  go_wp2_with fail
                  refine wp_region_later (by kernel_rfl) (by kernel_rfl) ?_
                  repeat (go_big_quiet_step (fail))
                  refine wpQuiet_nil ?_
                  rintro _ ⟨z, rfl⟩
                  go_wp2_with fail
                  go_roundw
                  case rel => exact ⟨j + 1, bs', sts', hlt, by simp, (S5.out.ch CX.out (fun _ _ => id) (fun _ _ => id)).below z.h, by omega, by omega, HSM.out, (C5.out.trans CX.out).call z.h⟩
                  case measure => simp only [intOf]; omega

    · have ht : decide ((j : Int) < (ops.length : Int)) = false := by simpa using hlt
      go_wp2_with fail
      refine (alive_any _).mono ?_
      rintro e w2 ⟨rfl, hb2⟩
      go_wp2
      go_ret
      exact ⟨rfl, (KC.out.call hb2).below⟩

/-- SessionRises answers true. -/
theorem rises_row (c : Int) (b : Option Addr) (cap : Nat) (ops : List OpD) (w : World) (_ : (Lit.int .i64 c).wf = true) (hlc : ops.length ≤ cap) (hro : RowAt w b 5 OpD.out ops) (_ : ∀ o ∈ ops, True) (hsz : ops.length * 40 ≤ 140737488351232) :
    Calls Try.prog 5 #[.int .i64 c, .slice b ops.length cap] w fun e w' => e = .returned (.bool true) ∧ Below w.heap.size w w' := by
  cases hc : decide (0 ≤ c) && decide (c ≤ 1099511627776) with
  | false => exact rises_bad c b ops.length cap w hc
  | true =>
    simp at hc
    by_cases hl : 200 < ops.length
    · exact rises_long c b ops.length cap w hc.1 hc.2 hl
    · exact rises_main c b cap ops w hc.1 hc.2 (by omega) hro
end Go.Proofs.Ytjilfmphdncapaa
