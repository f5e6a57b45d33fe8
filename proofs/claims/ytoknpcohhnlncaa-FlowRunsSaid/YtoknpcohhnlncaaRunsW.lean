/- FlowRuns: the walk. -/
import Derived.Test.YtoknpcohhnlncaaRuns
import Derived.MapKept
set_option linter.unusedVariables false
set_option linter.unusedSimpArgs false
namespace Go.Proofs.Ytoknpcohhnlncaa
open Go.RowKit

theorem offered_size {n : Int} {V : List ByteArray} {d : ByteArray} (h : Offered n V d) : d.size ≤ 1000 := by
  obtain ⟨Vt, x, l, _, _, hno, rfl, _⟩ := h
  unfold noteF at hno
  split at hno
  · rename_i hn
    cases hno
    have h7 := encN_len 8 ((Vt.length : Int)).toNat (by omega)
    have h8 := encN_len 8 x.size (by omega)
    rw [bS_size, List.length_append, List.length_append, sB_length]
    omega
  · cases hno

/-- The outer loop: j have run. -/
def RunsIn (w0 : World) (n : Int) (N : Nat) (v5 v6 v7 v32 : Value) (wi : World) : Prop :=
  ∃ j log way due u5 u6 u7, u5 = v5 ∧ u6 = v6 ∧ u7 = v7 ∧ j ≤ N ∧ v32 = .int .i64 (j : Nat) ∧ Rows3 w0 wi u5 u6 u7 log way due ∧ way.length = due.length ∧ way.length ≤ j ∧ log.length ≤ 101 * j ∧
    (∀ d ∈ way, Offered n (foldF n [] log) d) ∧ Chain (foldF n [] log) ∧ ∀ d ∈ log, d.size ≤ 1000
/-- The last loop: each value ends in its input. -/
def ChkIn (w : World) (s : Nat) (vb : Option Nat) (base : Nat) (n : Int) (V : List ByteArray) (v : Value) (wi : World) : Prop :=
  ∃ k : Nat, v = .int .i64 ((k : Int) + 1) ∧ (k = 0 ∨ k + 1 ≤ V.length) ∧ St wi s vb base n V ∧ Ch (fun _ => False) w wi
/-- The inner loop: k of what is due are looked at. -/
def DueIn (w0 : World) (n : Int) (j : Nat) (u6 u7 : Value) (way : List ByteArray) (due : List Int) (v5 v99 : Value) (wi : World) : Prop :=
  ∃ k log u5, u5 = v5 ∧ k ≤ due.length ∧ v99 = .int .i64 (k : Nat) ∧ Rows3 w0 wi u5 u6 u7 log way due ∧ log.length ≤ 101 * j + k ∧
    (∀ d ∈ way, Offered n (foldF n [] log) d) ∧ Chain (foldF n [] log) ∧ ∀ d ∈ log, d.size ≤ 1000

theorem chk_val {k n : Nat} (h : k + 1 < n) (hn : n ≤ 64) : Value.int .i64 (wrap64 ((k : Int) + 1 + 1)) = .int .i64 (((k + 1 : Nat) : Int) + 1) := by
  rw [IntWalk.wrap64_in _ (by omega)]
  rfl
theorem chk_meas {k n : Nat} (h : k + 1 < n) (hn : n ≤ 64) : n - (intOf (Value.int .i64 (wrap64 ((k : Int) + 1 + 1)))).toNat < n - (intOf (Value.int .i64 ((k : Int) + 1))).toNat := by
  rw [IntWalk.wrap64_in _ (by omega)]
  simp only [intOf]
  omega
/-- What the last loop's round goes by. -/
theorem chk_facts {V : List ByteArray} {k : Nat} (hkl : k + 1 < V.length) (hsm : V.length ≤ 64) (hc : Chain V) (hVs : ∀ v ∈ V, v.size ≤ 1000) :
    wrap64 (k : Int) = (k : Int) ∧ ∃ x y m, valueV V (k : Int) = .tuple #[.string x, .bool true] ∧ valueV V ((k : Int) + 1) = .tuple #[.string y, .bool true] ∧ x.size ≤ 1000 ∧ y.size = m + (cutB x).size ∧
      decide (y.size < (cutB x).size) = false ∧ wrap64 ((y.size : Int) - ((cutB x).size : Int)) = ((m : Nat) : Int) ∧ m ≤ y.size ∧ y.extract m y.size = cutB x ∧ (cutB x != cutB x) = false := by
  refine ⟨IntWalk.wrap64_in _ (by omega), ?_⟩
  obtain ⟨x, hx⟩ : ∃ x, V[k]? = some x := ⟨_, List.getElem?_eq_getElem (by omega)⟩
  obtain ⟨y, hy⟩ : ∃ y, V[k + 1]? = some y := ⟨_, List.getElem?_eq_getElem hkl⟩
  have hsuf := hc k x y hx hy
  have hsz := hsuf.size
  have e2 := hsuf.cut
  have hys := hVs y (List.mem_of_getElem? hy)
  obtain ⟨m, hm⟩ : ∃ m, y.size = m + (cutB x).size := ⟨y.size - (cutB x).size, by omega⟩
  rw [show y.size - (cutB x).size = m by omega] at e2
  refine ⟨x, y, m, ?_, ?_, hVs x (List.mem_of_getElem? hx), hm, by simp; omega, ?_, by omega, e2, by unfold bne; rw [(Go.MapKept.bytes_beq _ _).2 rfl]; rfl⟩
  · unfold valueV
    rw [if_pos (by omega), Int.toNat_natCast, List.getD_eq_getElem?_getD, hx]
    rfl
  · unfold valueV
    rw [if_pos (by omega), show ((k : Int) + 1).toNat = k + 1 by omega, List.getD_eq_getElem?_getD, hy]
    rfl
  · rw [IntWalk.wrap64_in _ (by omega)]
    omega

set_option maxRecDepth 100000 in
set_option maxHeartbeats 16000000 in
theorem runs_main (n : Int) (a : Option Addr) (cap : Nat) (rs : List RunD) (w : World) (h1 : 1 ≤ n) (h2 : n ≤ 64) (hN : rs.length ≤ 100) (ro : RowAt w a 2 RunD.out rs) (hz : ∀ r ∈ rs, r.name.size ≤ 140737488351232) :
    Calls Try.prog 5 #[.int .i64 n, .slice a rs.length cap] w fun e w' => e = .returned (.bool true) ∧ Below w.heap.size w w' := by
  have t100 : decide ((100 : Int) < (rs.length : Int)) = false := by simp; omega
  have t100' : decide (100 < rs.length) = false := by simp; omega
  have HRO := Lib.hid ro
  have HZ := Lib.hid hz
  clear ro hz
  go_enter Try.func5, Try.ntmps5
  go_wp2_with fail
  go_loopw [5, 6, 7, 32] (fun v5 v6 v7 v32 wi => RunsIn w n rs.length v5 v6 v7 v32 wi) (fun _ _ _ i _ => rs.length - (intOf i).toNat)
  case atStart => exact ⟨0, [], [], [], _, _, _, rfl, rfl, rfl, Nat.zero_le _, rfl, ⟨SRow.nil _ _, SRow.nil _ _, IRow.nil _ _, by simp [Value.ownBlock], by simp [Value.ownBlock], by simp [Value.ownBlock], Ch.refl _ _⟩, rfl, by simp, by simp, by simp, by intro k a b h; simp [foldF] at h, by simp⟩
  case round =>
    obtain ⟨j, log, way, due, u5, u6, u7, rfl, rfl, rfl, hj, rfl, R0, hwd, hwl, hll, hof, hch, hls⟩ := hrel
    have KR := Lib.hid R0
    have KO := Lib.hid hof
    have KH := Lib.hid hch
    have KL := Lib.hid hls
    obtain ⟨a5, cap5, rfl, hrow5⟩ := R0.l.row
    have K5 := Lib.hid hrow5
    obtain ⟨a6, cap6, rfl, hcap6⟩ := R0.m.slice
    obtain ⟨a7, cap7, rfl, hcap7⟩ := R0.d.slice
    have HB0 := R0.ch.size
    have HWD := Lib.hid hwd
    have hdl : due.length ≤ j := by omega
    clear hwd
    clear R0 hof hch hls hrow5 hcap6 hcap7
    by_cases hlt : j < rs.length
    · have ht : decide ((j : Int) < (rs.length : Int)) = true := by simpa using hlt
      have ht2 : decide (rs.length ≤ j) = false := by simpa using hlt
      obtain ⟨r, hp⟩ : ∃ r, rs[j]? = some r := ⟨_, List.getElem?_eq_getElem hlt⟩
      have hrz := HZ.out r (List.mem_of_getElem? hp)
      obtain ⟨b0, off, rfl, hb0, hcells⟩ := HRO.out j r hp
      have q0 : wr.cell? ⟨b0, off + j * 2, none⟩ = some (.string r.name) := (KR.out.ch.below.cell (p := ⟨b0, _, none⟩) hb0).trans (hcells 0 _ rfl)
      have q1 : wr.cell? ⟨b0, off + j * 2 + 1, none⟩ = some (.int .i64 r.late) := (KR.out.ch.below.cell (p := ⟨b0, _, none⟩) hb0).trans (hcells 1 _ rfl)
      have KR1 := Lib.hid (KR.out.below (below1 wr (.cells #[.string r.name, .int .i64 r.late] 41)))
      have B1 := Lib.hid (Blk.new wr #[.string r.name, .int .i64 r.late] 41)
      have HF := Lib.hid (fold_ok n a5 cap5 log (wr.alloc (.cells #[.string r.name, .int .i64 r.late] 41)) h1 h2 (K5.out.below (below1 wr (.cells #[.string r.name, .int .i64 r.late] 41))) (fun d hd => by have := KL.out d hd; omega) (by omega))
      clear hcells K5 hp
      go_wp2_with fail
      refine HF.out.mono ?_
      rintro e w2 ⟨s, vb, rfl, S2, hs2, hv2, hb2⟩
      have KS2 := Lib.hid S2
      have KR2 := Lib.hid (KR1.out.below hb2)
      have B2 := Lib.hid (B1.out.below hb2)
      obtain ⟨z1, z2⟩ := B2.out.cells
      clear HF S2 hv2 hb2 KR1 B1 q0 q1
      by_cases hn1 : 10 < r.name.size
      · have t1 : decide ((10 : Int) < (r.name.size : Int)) = true := by simp; omega
        have t1' : decide (10 < r.name.size) = true := by simp; omega
        clear hn1
        go_wp2_with fail
        refine (alive_any _).mono ?_
        rintro e w3 ⟨rfl, hb3⟩
        go_wp2_with fail
        go_ret
        exact ⟨rfl, (KR2.out.ch.call hb3).below⟩
      have t1 : decide ((10 : Int) < (r.name.size : Int)) = false := by simp; omega
      have t1' : decide (10 < r.name.size) = false := by simp; omega
      by_cases hl0 : r.late < 0
      · have t2 : decide (r.late < 0) = true := by simpa using hl0
        clear hl0
        go_wp2_with fail
        refine (alive_any _).mono ?_
        rintro e w3 ⟨rfl, hb3⟩
        go_wp2_with fail
        go_ret
        exact ⟨rfl, (KR2.out.ch.call hb3).below⟩
      have t2 : decide (r.late < 0) = false := by simpa using hl0
      by_cases hl1 : 100 < r.late
      · have t3 : decide (100 < r.late) = true := by simpa using hl1
        clear hl1
        go_wp2_with fail
        refine (alive_any _).mono ?_
        rintro e w3 ⟨rfl, hb3⟩
        go_wp2_with fail
        go_ret
        exact ⟨rfl, (KR2.out.ch.call hb3).below⟩
      have t3 : decide (100 < r.late) = false := by simpa using hl1
      have NX := next_any s vb _ n _ w2 KS2.out
      unfold nextV at NX
      obtain ⟨V, hV⟩ : ∃ V, V = foldF n [] log := ⟨_, rfl⟩
      rw [← hV] at NX KS2
      have HV := Lib.hid hV
      clear hV
      by_cases hfull : n ≤ V.length
      · rw [if_pos hfull] at NX
        have NX := Lib.hid NX
        clear hfull
        go_wp2_with fail
        refine NX.out.mono ?_
        rintro e w3 ⟨rfl, hb3⟩
        have KR3 := Lib.hid (KR2.out.below hb3)
        clear NX hb3 KR2 B2 KS2 z1 z2
        have hd100 : due.length ≤ 101 := by omega
        go_wp2_with fail
        have KO3 := KO
        go_loopw [5, 99] (fun v5 v99 wi => DueIn w n j (.slice a6 way.length cap6) (.slice a7 due.length cap7) way due v5 v99 wi) (fun _ i _ => due.length - (intOf i).toNat)
        case atStart => exact ⟨0, log, _, rfl, Nat.zero_le _, rfl, KR3.out, by omega, KO3.out, KH.out, KL.out⟩
        case round =>
          obtain ⟨k, log2, x5, rfl, hk, rfl, R3, hll2, hof2, hch2, hls2⟩ := hrel
          have LR := Lib.hid R3
          have LO := Lib.hid hof2
          have LH := Lib.hid hch2
          have LL := Lib.hid hls2
          have hb0 := R3.ch.size
          clear R3 hof2 hch2 hls2
          by_cases hkl : k < due.length
          · have tk : decide ((k : Int) < (due.length : Int)) = true := by simpa using hkl
            have tk2 : decide (due.length ≤ k) = false := by simpa using hkl
            have tk3 : decide (way.length ≤ k) = false := by have h9 := HWD.out; simp; omega
            obtain ⟨t, ht⟩ : ∃ t, due[k]? = some t := ⟨_, List.getElem?_eq_getElem hkl⟩
            obtain ⟨d, hdw⟩ : ∃ d, way[k]? = some d := ⟨_, List.getElem?_eq_getElem (by have h9 := HWD.out; omega)⟩
            have hkw : k < way.length := by have h9 := HWD.out; omega
            obtain ⟨g7, c7, e7, hcell7⟩ := LR.out.d.at ht
            obtain ⟨g6, c6, e6, hcell6⟩ := LR.out.m.at hdw
            cases e7
            cases e6
            have HOD := Lib.hid (LO.out d (List.mem_of_getElem? hdw))
            have hsn := Lib.hid (foldF_snoc n [] log2 d)
            clear ht hdw
            by_cases hd : t = (j : Int)
            · have td : (t == (j : Int)) = true := by simpa using hd
              have HS4 := Lib.hid (LR.out.below (below1 wr (.cells #[.string d] 9))).l
              clear hd
              go_wp2_with (at_builtin; refine wpList_append_str rfl (.tmp 107) (.tmp 112) rfl rfl rfl HS4.out (Blk.new wr _ _) ?c1 ?c2 ?_)
              case c1 => simp; omega
              case c2 => omega
              intro g5 cap5 w5 hown5 hgrow5 hg5 hlt5
              have R5 := Lib.hid (LR.out.addl (below1 wr (.cells #[.string d] 9)) hgrow5 hown5 (by simpa using hg5))
              clear hown5 hgrow5 hg5 hlt5 HS4
              go_wp2_with fail
              go_roundw
              case rel => exact ⟨k + 1, log2 ++ [d], _, rfl, hkl, by simp, by simpa using R5.out, by simp; omega, by
                  intro d2 h2
                  rw [hsn.out]
                  exact (LO.out d2 h2).mono (addF_prefix _ _ _), by
                  rw [hsn.out]
                  exact chain_add LH.out HOD.out, by
                  intro d2 h2
                  rcases List.mem_append.1 h2 with h2 | h2
                  · exact LL.out d2 h2
                  · rw [List.mem_singleton] at h2
                    rw [h2]
                    exact offered_size HOD.out⟩
              case measure => simp only [intOf]; omega
            · have td : (t == (j : Int)) = false := by simpa using hd
              clear hd
              go_wp2_with fail
              go_roundw
              case rel => exact ⟨k + 1, log2, _, rfl, hkl, by simp, LR.out, by omega, LO.out, LH.out, LL.out⟩
              case measure => simp only [intOf]; omega
          · have tk : decide ((k : Int) < (due.length : Int)) = false := by simpa using hkl
            go_wp2_with fail
            go_roundw
            case rel => exact ⟨j + 1, log2, _, _, _, _, _, rfl, rfl, rfl, hlt, by simp, LR.out, HWD.out, by omega, by omega, LO.out, LH.out, LL.out⟩
            case measure => simp only [intOf]; omega
      · rw [if_neg hfull] at NX
        have NX := Lib.hid NX
        obtain ⟨last, hlast⟩ : ∃ x, x = V.getLastD ⟨#[]⟩ := ⟨_, rfl⟩
        rw [← hlast] at NX
        have HLA := Lib.hid hlast
        clear hlast
        go_wp2_with fail
        refine NX.out.mono ?_
        rintro e w3 ⟨rfl, hb3⟩
        have KR3 := Lib.hid (KR2.out.below hb3)
        have KS3 := Lib.hid (KS2.out.below hb3)
        obtain ⟨z3, z4⟩ := (B2.out.below hb3).laterCells
        have B3 := Lib.hid (B2.out.below hb3)
        obtain ⟨txt, htxt⟩ : ∃ x, x = r.name ++ ⟨#[58]⟩ ++ cutB last := ⟨_, rfl⟩
        have hts : txt.size ≤ 51 := by
          rw [htxt, ByteArray.size_append, ByteArray.size_append]
          have := cutB_size last
          have : (⟨#[58]⟩ : ByteArray).size = 1 := rfl
          omega
        obtain ⟨l, hl⟩ : ∃ l, noteF V.length txt = some l := by
          unfold noteF
          rw [if_pos (by omega)]
          exact ⟨_, rfl⟩
        have hsuf : Suf txt (cutB last) := ⟨sB (r.name ++ ⟨#[58]⟩), by rw [htxt]; unfold sB; rw [ByteArray.data_append, Array.toList_append, List.map_append]⟩
        have HOF := Lib.hid (show Offered n V (bS l) from ⟨V, txt, l, List.prefix_refl _, by omega, hl, rfl, by rw [← HLA.out]; exact hsuf⟩)
        have hov : offerV n V txt = .tuple #[.string (bS l), .int .i64 0] := by
          unfold offerV
          rw [if_neg (by omega), hl]
        have hlast_sz : last.size ≤ 140737488351232 := by
          rw [HLA.out, HV.out]
          have := last_size (foldF_sizes (n := n) (B := 1000) log (V := []) (by simp) KL.out)
          omega
        have HC := Lib.hid (fun x : Later w3 => cut_any last x.w hlast_sz)
        have HO := Lib.hid (fun x : Later w3 => offer_any s vb _ n V txt x.w (KS3.out.below x.h) (by unfold maxLen; omega))
        rw [hov] at HO
        have HLT := Lib.hid hl
        have HTX := Lib.hid htxt.symm
        have m1 : r.name.size + 1 ≤ maxLen := by unfold maxLen; omega
        have m2 : ¬ (9223372036854775807 < r.name.size + 1 + (cutB last).size) := by
          have := cutB_size last
          omega
        clear hl hov htxt hsuf hfull NX hb3 hlast_sz
        go_wp2_with fail
        refine wp_region_later (by kernel_rfl) (by kernel_rfl) ?_
        go_big_quiet_step (fail)
        go_big_quiet_step (fail)
        go_big_quiet_step (fail)
        go_big_quiet_step (fail)
        go_big_quiet_step (fail)
        go_big_quiet_step (first | (go_at_call 19; exact Calls.later (HC.out _)))
        go_big_quiet_step (fail)
        go_big_quiet_step (first | (go_at_call 18; rw [HTX.out]; exact Calls.later (HO.out _)))
        repeat (go_big_quiet_step (fail))
        refine wpQuiet_nil ?_
        rintro _ ⟨x, rfl⟩
        have KR4 := Lib.hid (KR3.out.below x.h)
        have B4 := Lib.hid (B3.out.below x.h)
        obtain ⟨z5, z6⟩ := B4.out.cells
        obtain ⟨w4, hw4⟩ : ∃ w4, w4 = x.w := ⟨_, rfl⟩
        rw [← hw4] at KR4 B4 z5 z6 ⊢
        clear hw4 HC HO m1 m2 HTX HLT KS3 KS2 z3 z4 z1 z2 B3 KR3 KR2 B2
        have HNE := Lib.hid (fun k e => (KR.out.m.own (g := k) e).2)
        have hb4 : w.heap.size ≤ w4.heap.size := KR4.out.ch.size
        have hb4' := B4.out.lt
        go_upto_region 17 with fail
        go_cut [6, 7] (fun v6 v7 wx => ∃ g6 c6 g7 c7 t way2 due2, way2 = way ++ [bS l] ∧ due2 = due ++ [t] ∧ v6 = .slice (some ⟨g6, 0, none⟩) (way.length + 1) c6 ∧ v7 = .slice (some ⟨g7, 0, none⟩) (due.length + 1) c7 ∧ Rows3 w wx (.slice a5 log.length cap5) v6 v7 log way2 due2)
        case first =>
          go_region_law (first
            | (refine step_append_str rfl (.tmp 86) (.tmp 88) rfl rfl rfl ((KR4.out.below (Ch.below (by (repeat (first | with_reducible assumption | with_reducible exact Ch.refl _ _ | with_reducible refine Ch.drew ?_ | with_reducible refine Ch.alloc ?_ _ | (with_reducible refine Ch.set' ?_ ?_; focus (first | (right; rfl; done) | (left; simp; done) | (left; simp; omega) | (left; omega) | (right; simp; done) | (right; simp; omega)))))))).m) (by (repeat (first | (with_reducible refine Blk.new' ?_; first | rfl | (simp; done) | (simp; omega)) | with_reducible refine Blk.drew ?_ | with_reducible refine Blk.alloc ?_ _))) (by first | (simp; omega) | omega) (by omega) ?_
               intro g5 cap5 w5 hown5 hgrow5 hg5 hlt5
               obtain ⟨KR5, HN5⟩ := KR4.out.midm (by (repeat (first | with_reducible assumption | with_reducible exact Ch.refl _ _ | with_reducible refine Ch.drew ?_ | with_reducible refine Ch.alloc ?_ _ | (with_reducible refine Ch.set' ?_ ?_; focus (first | (right; rfl; done) | (left; simp; done) | (left; simp; omega) | (left; omega) | (right; simp; done) | (right; simp; omega)))))) hgrow5 hown5 hg5
               have KR5 := Lib.hid KR5
               have HN5 := Lib.hid HN5
               obtain ⟨y1, y2⟩ := (HN5.out _ _ _ (Blk.ch B4.out (show Ch (fun _ => False) w4 _ from by (repeat (first | with_reducible assumption | with_reducible exact Ch.refl _ _ | with_reducible refine Ch.drew ?_ | with_reducible refine Ch.alloc ?_ _ | (with_reducible refine Ch.set' ?_ ?_; focus (first | (right; rfl; done) | (left; simp; done) | (left; simp; omega) | (left; omega) | (right; simp; done) | (right; simp; omega)))))) id) (fun e => absurd (HNE.out _ e) (Nat.lt_irrefl _))).cells
               have hb5 := KR5.out.ch.size
               clear hown5 hgrow5 hg5 hlt5)
            | (refine step_append_int rfl (.tmp 90) (.tmp 95) rfl rfl rfl ((KR5.out.below (Ch.below (by (repeat (first | with_reducible assumption | with_reducible exact Ch.refl _ _ | with_reducible refine Ch.drew ?_ | with_reducible refine Ch.alloc ?_ _ | (with_reducible refine Ch.set' ?_ ?_; focus (first | (right; rfl; done) | (left; simp; done) | (left; simp; omega) | (left; omega) | (right; simp; done) | (right; simp; omega)))))))).d) (by first | ((repeat (first | (with_reducible refine Blk.new' ?_; first | rfl | (simp; done) | (simp; omega)) | with_reducible refine Blk.drew ?_ | with_reducible refine Blk.alloc ?_ _)); done) | exact HN5.out _ _ _ (by (repeat (first | (with_reducible refine Blk.new' ?_; first | rfl | (simp; done) | (simp; omega)) | with_reducible refine Blk.drew ?_ | with_reducible refine Blk.alloc ?_ _))) (fun e => by have := HNE.out _ e; omega)) (by first | (simp; omega) | omega) (by omega) ?_
               intro g6 cap6' w6 hown6 hgrow6 hg6 hlt6
               have KR6 := Lib.hid (KR5.out.addd (Ch.below (by (repeat (first | with_reducible assumption | with_reducible exact Ch.refl _ _ | with_reducible refine Ch.drew ?_ | with_reducible refine Ch.alloc ?_ _ | (with_reducible refine Ch.set' ?_ ?_; focus (first | (right; rfl; done) | (left; simp; done) | (left; simp; omega) | (left; omega) | (right; simp; done) | (right; simp; omega))))))) hgrow6 hown6 hg6)
               clear hown6 hgrow6 hg6 hlt6))
          all_goals
            go_wp2_with fail
            go_meet
            exact ⟨_, _, _, _, _, _, _, rfl, rfl, rfl, rfl, KR6.out⟩
        case rest =>
        obtain ⟨p6, cp6, p7, cp7, t7, way2, due2, hway2, hdue2, rfl, rfl, R6⟩ := hcut
        have e6 : way.length + 1 = way2.length := by rw [hway2]; simp
        have e7 : due.length + 1 = due2.length := by rw [hdue2]; simp
        rw [e6, e7] at R6 ⊢
        have KR3 := Lib.hid R6
        have KO3 := Lib.hid (show ∀ d ∈ way2, Offered n (foldF n [] log) d from by
          intro d hd
          rw [hway2] at hd
          rcases List.mem_append.1 hd with hd | hd
          · exact KO.out d hd
          · rw [List.mem_singleton] at hd
            rw [hd, ← HV.out]
            exact HOF.out)
        have HWDa := HWD.out
        have HWD := Lib.hid (show way2.length = due2.length from by rw [hway2, hdue2, List.length_append, List.length_append, HWDa]; rfl)
        have hdl2 : due2.length ≤ j + 1 := by rw [hdue2, List.length_append]; simpa using hdl
        have hwl2 : way2.length ≤ j + 1 := by rw [HWD.out]; exact hdl2
        clear R6 hway2 hdue2 KR4 HWDa hwl e6 e7
        go_wp2_with fail
        go_loopw [5, 99] (fun v5 v99 wi => DueIn w n j (.slice (some ⟨p6, 0, none⟩) way2.length cp6) (.slice (some ⟨p7, 0, none⟩) due2.length cp7) way2 due2 v5 v99 wi) (fun _ i _ => due2.length - (intOf i).toNat)
        case atStart => exact ⟨0, log, _, rfl, Nat.zero_le _, rfl, KR3.out, by omega, KO3.out, KH.out, KL.out⟩
        case round =>
          obtain ⟨k, log2, x5, rfl, hk, rfl, R3, hll2, hof2, hch2, hls2⟩ := hrel
          have LR := Lib.hid R3
          have LO := Lib.hid hof2
          have LH := Lib.hid hch2
          have LL := Lib.hid hls2
          have hb0 := R3.ch.size
          clear R3 hof2 hch2 hls2
          by_cases hkl : k < due2.length
          · have tk : decide ((k : Int) < (due2.length : Int)) = true := by simpa using hkl
            have tk2 : decide (due2.length ≤ k) = false := by simpa using hkl
            have tk3 : decide (way2.length ≤ k) = false := by have h9 := HWD.out; simp; omega
            obtain ⟨t, ht⟩ : ∃ t, due2[k]? = some t := ⟨_, List.getElem?_eq_getElem hkl⟩
            obtain ⟨d, hdw⟩ : ∃ d, way2[k]? = some d := ⟨_, List.getElem?_eq_getElem (by have h9 := HWD.out; omega)⟩
            have hkw : k < way2.length := by have h9 := HWD.out; omega
            obtain ⟨g7, c7, e7, hcell7⟩ := LR.out.d.at ht
            obtain ⟨g6, c6, e6, hcell6⟩ := LR.out.m.at hdw
            cases e7
            cases e6
            have HOD := Lib.hid (LO.out d (List.mem_of_getElem? hdw))
            have hsn := Lib.hid (foldF_snoc n [] log2 d)
            clear ht hdw
            by_cases hd : t = (j : Int)
            · have td : (t == (j : Int)) = true := by simpa using hd
              have HS4 := Lib.hid (LR.out.below (below1 wr (.cells #[.string d] 9))).l
              clear hd
              go_wp2_with (at_builtin; refine wpList_append_str rfl (.tmp 107) (.tmp 112) rfl rfl rfl HS4.out (Blk.new wr _ _) ?c1 ?c2 ?_)
              case c1 => simp; omega
              case c2 => omega
              intro g5 cap5 w5 hown5 hgrow5 hg5 hlt5
              have R5 := Lib.hid (LR.out.addl (below1 wr (.cells #[.string d] 9)) hgrow5 hown5 (by simpa using hg5))
              clear hown5 hgrow5 hg5 hlt5 HS4
              go_wp2_with fail
              go_roundw
              case rel => exact ⟨k + 1, log2 ++ [d], _, rfl, hkl, by simp, by simpa using R5.out, by simp; omega, by
                  intro d2 h2
                  rw [hsn.out]
                  exact (LO.out d2 h2).mono (addF_prefix _ _ _), by
                  rw [hsn.out]
                  exact chain_add LH.out HOD.out, by
                  intro d2 h2
                  rcases List.mem_append.1 h2 with h2 | h2
                  · exact LL.out d2 h2
                  · rw [List.mem_singleton] at h2
                    rw [h2]
                    exact offered_size HOD.out⟩
              case measure => simp only [intOf]; omega
            · have td : (t == (j : Int)) = false := by simpa using hd
              clear hd
              go_wp2_with fail
              go_roundw
              case rel => exact ⟨k + 1, log2, _, rfl, hkl, by simp, LR.out, by omega, LO.out, LH.out, LL.out⟩
              case measure => simp only [intOf]; omega
          · have tk : decide ((k : Int) < (due2.length : Int)) = false := by simpa using hkl
            go_wp2_with fail
            go_roundw
            case rel => exact ⟨j + 1, log2, _, _, _, _, _, rfl, rfl, rfl, hlt, by simp, LR.out, HWD.out, by omega, by omega, LO.out, LH.out, LL.out⟩
            case measure => simp only [intOf]; omega
    · have ht : decide ((j : Int) < (rs.length : Int)) = false := by simpa using hlt
      have HF := Lib.hid (fold_ok n a5 cap5 log wr h1 h2 K5.out (fun d hd => by have := KL.out d hd; omega) (by omega))
      have HC0 := Lib.hid KR.out.ch
      clear KR K5 KO
      go_wp2_with fail
      refine HF.out.mono ?_
      rintro e w2 ⟨s, vb, rfl, S2, hs2, hv2, hb2⟩
      obtain ⟨V, hV⟩ : ∃ V, V = foldF n [] log := ⟨_, rfl⟩
      have KHV := KH.out
      rw [← hV] at S2 KHV
      have KV := Lib.hid KHV
      have KS := Lib.hid S2
      have HC := Lib.hid (HC0.out.call hb2)
      have hVs := Lib.hid (show ∀ v ∈ V, v.size ≤ 1000 from by rw [hV]; exact foldF_sizes log (by simp) KL.out)
      clear HF HC0 KH KHV S2 hb2 hV hv2
      go_wp2_with fail
      go_loopw [21] (fun v21 wi => ChkIn w s vb wr.heap.size n V v21 wi) (fun v _ => V.length - (intOf v).toNat)
      case atStart => exact ⟨0, rfl, .inl rfl, KS.out, HC.out⟩
      case round =>
        obtain ⟨k, rfl, hk, S3, C3⟩ := hrel
        have LS := Lib.hid S3
        have LC := Lib.hid C3
        have HD := Lib.hid (done_any s vb _ n V _ S3)
        clear S3 C3 KS HC
        by_cases hkl : k + 1 < V.length
        · have tk : decide (((k : Int) + 1) < (V.length : Int)) = true := by simp; omega
          go_wp2_with fail
          refine HD.out.mono ?_
          rintro e w4 ⟨rfl, hb4⟩
          obtain ⟨wr1, x, y, m, hva, hvb, hxs, hm, t5, e1, hle, e2, tne⟩ := chk_facts hkl LS.out.small KV.out hVs.out
          have HA := value_any s vb _ n V (k : Int) w4 (LS.out.below hb4)
          rw [hva] at HA
          have HA := Lib.hid HA
          have HVB := Lib.hid hvb
          have HM := Lib.hid hm
          have HXS := Lib.hid hxs
          have HKL := Lib.hid hkl
          have HSL := Lib.hid LS.out.small
          clear hva hvb hk hm hkl hxs tne
          go_wp2_with fail
          refine HA.out.mono ?_
          rintro e w5 ⟨rfl, hb5⟩
          have HB := value_any s vb _ n V ((k : Int) + 1) w5 ((LS.out.below hb4).below hb5)
          rw [HVB.out] at HB
          have HB := Lib.hid HB
          clear HVB HA
          go_wp2_with fail
          refine HB.out.mono ?_
          rintro e w6 ⟨rfl, hb6⟩
          have HX := Lib.hid (fun z : Later w6 => cut_any x z.w (Nat.le_trans HXS.out (by decide)))
          go_wp2_with fail
          refine wp_region_later (by kernel_rfl) (by kernel_rfl) ?_
          repeat (go_big_quiet_step (first | (go_at_call 19; exact Calls.later (HX.out _))))
          refine wpQuiet_nil ?_
          rintro _ ⟨z, rfl⟩
          have S6 := Lib.hid ((((LS.out.below hb4).below hb5).below hb6).below z.h)
          have C6 := Lib.hid ((((LC.out.call hb4).call hb5).call hb6).call z.h)
          clear hb4 hb5 hb6 HX HB HD
          go_wp2_with fail
          go_roundw
          case rel => exact ⟨k + 1, chk_val HKL.out HSL.out, .inr HKL.out, S6.out, C6.out⟩
          case measure => exact chk_meas HKL.out HSL.out
        · have tk : decide (((k : Int) + 1) < (V.length : Int)) = false := by simp; omega
          go_wp2_with fail
          refine HD.out.mono ?_
          rintro e w4 ⟨rfl, hb4⟩
          go_wp2_with fail
          refine (alive_any _).mono ?_
          rintro e w5 ⟨rfl, hb5⟩
          go_wp2_with fail
          go_ret
          exact ⟨rfl, ((LC.out.call hb4).call hb5).below⟩
end Go.Proofs.Ytoknpcohhnlncaa
