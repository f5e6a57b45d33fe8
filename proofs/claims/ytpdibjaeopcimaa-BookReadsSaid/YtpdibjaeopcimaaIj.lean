/- index: Apply. -/
import Derived.Test.YtpdibjaeopcimaaIh
set_option linter.unusedVariables false
set_option linter.unusedSimpArgs false
namespace Go.Proofs.Ytpdibjaeopcimaa
open Go.RowKit

/-- Apply's end: one more is applied. -/
theorem XPost.inc {G : Nat → Prop} {x n : Nat} {st : XSt} {w w2 : World} (h : Ix G w2 x st) (hc : Ch (fun k => ¬ G k) w w2) (hn : st.applied = n) : XPost G x (incX st) w (w2.setCell ⟨x, 6, none⟩ (.int .i64 ((n : Int) + 1))) := by
  subst hn
  obtain ⟨c, rv, mt, mi, mm, rws, i1, i2⟩ := h
  have h1 := (show IxL c (w2.setCell ⟨x, 6, none⟩ (.int .i64 ((st.applied : Int) + 1))) x rv mt mi mm rws (fun t => numsF t 0 st.rows) (idsL st.rows) (incX st) from i1.app (st.applied + 1))
  refine ⟨h1.ix (fun k hk => ⟨by simp [World.setCell]; exact (i2 k hk).1, (i2 k hk).2⟩), hc.set (p := ⟨x, 6, none⟩) (.inr (fun hg => ?_)) _⟩
  have := (i2 x hg).2
  rw [i1.cx] at this
  cases this
def ApplyPost (G : Nat → Prop) (x : Nat) (r : XSt × Int) (w : World) (e : Ending) (w' : World) : Prop := e = .returned (.int .i64 r.2) ∧ XPost G x r.1 w w'
set_option maxRecDepth 100000 in
set_option maxHeartbeats 16000000 in
theorem apply_any {G S : Nat → Prop} {x : Nat} {st : XSt} (i : It) (tv : Value) (w : World) (h : Ix G w x st) (hg : GoodX st) (htv : VRow S 1 intO w tv i.r.tags) (hm : st.rows.length ≤ 4000000) (ha : st.applied ≤ 4000000) (hSG : ∀ k, S k → G k) (hGw : ∀ k, G k → k < w.heap.size) (htl : i.r.tags.length ≤ 140737488351232) :
    Calls Try.prog 35 #[.pointer (some ⟨x, 0, none⟩), itemV i tv] w (ApplyPost G x (applyX st i) w) := by
  obtain ⟨r, hr⟩ : ∃ r, applyX st i = r := ⟨_, rfl⟩
  rw [hr]
  have HR := Lib.hid hr
  have HADD := Lib.hid (fun w' (hI : Ix G w' x st) (hk : keepsX st i = true) (hv : VRow S 1 intO w' tv i.r.tags) => add_any i tv w' hI hg hk hv hm hSG)
  have HRT := Lib.hid (fun w' (hv : VRow S 1 intO w' tv i.r.tags) => right_any i.r tv w' hv htl)
  have HLS := Lib.hid (fun w' => less_any st.last i.seq w')
  obtain ⟨kp, hkp⟩ : ∃ b, keepsX st i = b := ⟨_, rfl⟩
  have HKP := Lib.hid hkp
  obtain ⟨rt, hrt⟩ : ∃ b, rightR i.r = b := ⟨_, rfl⟩
  obtain ⟨ls, hls⟩ : ∃ b, lessP st.last i.seq = b := ⟨_, rfl⟩
  rw [hrt] at HRT
  rw [hls] at HLS
  have hkeep : ((i.kind == 1) && rt && decide (1 ≤ i.seq.1) && decide (0 ≤ i.seq.2) && ls) = kp := by rw [← hkp, ← hrt, ← hls]; rfl
  have HT := Lib.hid (fun (hk : kp = false) => (show r = if trimsX i = true then (incX (trimX st i), 0) else (st, 1) by rw [← hr]; unfold applyX; rw [hkp, hk]; rfl))
  have HK := Lib.hid (fun (hk : kp = true) => (show r = (incX (addX st i), 0) by rw [← hr]; unfold applyX; rw [hkp, hk]; rfl))
  obtain ⟨kind, ⟨sa, sb⟩, ⟨⟨ia, ib⟩, tags, data⟩, tag, ⟨ua, ub⟩, far⟩ := i
  simp only at htv hkeep HRT HLS
  obtain ⟨ta, tcap, rfl, _, _⟩ := htv.slice
  have hb0 := below1 w (.cells #[.int .i64 kind, .int .i64 sa, .int .i64 sb, .int .i64 ia, .int .i64 ib, .slice ta tags.length tcap, .string data, .int .i64 tag, .int .i64 ua, .int .i64 ub] 41)
  have hB0 := Blk.new w #[.int .i64 kind, .int .i64 sa, .int .i64 sb, .int .i64 ia, .int .i64 ib, .slice ta tags.length tcap, .string data, .int .i64 tag, .int .i64 ua, .int .i64 ub] 41
  obtain ⟨w0, hw0⟩ : ∃ w0, w0 = w.alloc (.cells #[.int .i64 kind, .int .i64 sa, .int .i64 sb, .int .i64 ia, .int .i64 ib, .slice ta tags.length tcap, .string data, .int .i64 tag, .int .i64 ua, .int .i64 ub] 41) := ⟨_, rfl⟩
  rw [← hw0] at hb0 hB0
  have HI0 := Lib.hid (h.below' hb0)
  have HB0 := Lib.hid hB0
  have HBW := Lib.hid hb0
  have HV0 := Lib.hid (htv.below hb0)
  have HGW := Lib.hid hGw
  have HHA := Lib.hid ha
  obtain ⟨⟨la, lb⟩, hlast⟩ : ∃ l, st.last = l := ⟨_, rfl⟩
  rw [hlast] at HLS
  have hbox := HI0.out
  obtain ⟨c, rv, mt, mi, mm, rws, i1, i2⟩ := hbox
  obtain ⟨q1, q2⟩ := i1.box.laterCells
  rw [hlast] at q1
  obtain ⟨q3, q4⟩ := HB0.out.laterCells
  have HRX := Lib.hid (fun y : Later w0 => HRT.out y.w (HV0.out.below y.h))
  have HLX := Lib.hid (fun y : Later w0 => HLS.out y.w)
  unfold recV at HRX
  unfold plV at HLX
  simp only at HRX HLX q1
  have hw0s : w0.heap.size = w.heap.size + 1 := by rw [hw0]; simp
  have HWS := Lib.hid hw0s
  clear h hg htv hm hSG hGw ha hkp hrt hls hr hb0 hB0 i1 i2 hlast HRT HLS hw0s htl
  unfold itemV
  simp only
  go_enter Try.func35, Try.ntmps35
  go_wp2_with fail
  rw [← hw0]
  clear hw0
  go_cut [7] (fun v7 wx => v7 = .bool kp ∧ Below w0.heap.size w0 wx)
  case first =>
    by_cases h1 : (kind == 1) = true
    · rw [h1] at hkeep
      cases rt with
      | false =>
        have hke : kp = false := by rw [← hkeep]; simp
        subst hke
        clear hkeep
        refine wp_region_later (by kernel_rfl) (by kernel_rfl) ?_
        repeat (go_big_quiet_step (first | (go_at_call 32; exact Calls.later (HRX.out _)) | (go_at_call 51; exact Calls.later (HLX.out _))))
        refine wpQuiet_nil ?_
        rintro _ ⟨y, rfl⟩
        go_wp2_with fail
        go_meet
        exact ⟨rfl, y.h⟩
      | true =>
        by_cases h2 : decide (1 ≤ sa) = true
        · rw [h2] at hkeep
          by_cases h3 : decide (0 ≤ sb) = true
          · rw [h3] at hkeep
            have hke : kp = ls := by rw [← hkeep]; simp
            subst hke
            clear hkeep
            refine wp_region_later (by kernel_rfl) (by kernel_rfl) ?_
            repeat (go_big_quiet_step (first | (go_at_call 32; exact Calls.later (HRX.out _)) | (go_at_call 51; exact Calls.later (HLX.out _))))
            refine wpQuiet_nil ?_
            rintro _ ⟨y, rfl⟩
            go_wp2_with fail
            go_meet
            exact ⟨rfl, y.h⟩
          · simp only [Bool.not_eq_true] at h3
            have hke : kp = false := by rw [← hkeep, h3]; simp
            subst hke
            clear hkeep
            refine wp_region_later (by kernel_rfl) (by kernel_rfl) ?_
            repeat (go_big_quiet_step (first | (go_at_call 32; exact Calls.later (HRX.out _)) | (go_at_call 51; exact Calls.later (HLX.out _))))
            refine wpQuiet_nil ?_
            rintro _ ⟨y, rfl⟩
            go_wp2_with fail
            go_meet
            exact ⟨rfl, y.h⟩
        · simp only [Bool.not_eq_true] at h2
          have hke : kp = false := by rw [← hkeep, h2]; simp
          subst hke
          clear hkeep
          refine wp_region_later (by kernel_rfl) (by kernel_rfl) ?_
          repeat (go_big_quiet_step (first | (go_at_call 32; exact Calls.later (HRX.out _)) | (go_at_call 51; exact Calls.later (HLX.out _))))
          refine wpQuiet_nil ?_
          rintro _ ⟨y, rfl⟩
          go_wp2_with fail
          go_meet
          exact ⟨rfl, y.h⟩
    · simp only [Bool.not_eq_true] at h1
      have hke : kp = false := by rw [← hkeep, h1]; simp
      subst hke
      clear hkeep
      refine wp_region_later (by kernel_rfl) (by kernel_rfl) ?_
      repeat (go_big_quiet_step (first | (go_at_call 32; exact Calls.later (HRX.out _)) | (go_at_call 51; exact Calls.later (HLX.out _))))
      refine wpQuiet_nil ?_
      rintro _ ⟨y, rfl⟩
      go_wp2_with fail
      go_meet
      exact ⟨rfl, y.h⟩
  case rest =>
    obtain ⟨rfl, hbx⟩ := hcut
    have HI1 := Lib.hid (HI0.out.below' hbx)
    have HB1 := Lib.hid (HB0.out.below hbx)
    have HV1 := Lib.hid (HV0.out.below hbx)
    have HW1 := Lib.hid (HBW.out.trans (hbx.mono HBW.out.size))
    clear q1 q2 q3 q4 hkeep hbx HI0 HB0 HV0 HRX HLX
    cases kp with
    | true =>
      have HE := Lib.hid (HK.out rfl)
      have HA := Lib.hid (HADD.out wc HI1.out HKP.out HV1.out)
      obtain ⟨q1, q2⟩ := HB1.out.cells
      unfold itemV at HA
      simp only at HA
      go_wp2_with fail
      refine HA.out.mono ?_
      rintro e w2 ⟨rfl, hI2, hC2⟩
      clear q1 q2
      have HI3 := Lib.hid hI2
      have HC3 := Lib.hid (show Ch (fun k => ¬ G k) w w2 from (Ch.of_below (fun k => ¬ G k) HW1.out).trans hC2)
      obtain ⟨st2, hst2⟩ : ∃ st2, addX st ⟨kind, (sa, sb), ⟨(ia, ib), tags, data⟩, tag, (ua, ub), far⟩ = st2 := ⟨_, rfl⟩
      have hap : st2.applied = st.applied := by rw [← hst2]; rfl
      rw [hst2] at HI3 HE
      have HAP := Lib.hid hap
      have hbox := HI3.out
      obtain ⟨c, rv, mt, mi, mm, rws, i1, i2⟩ := hbox
      obtain ⟨q1, q2⟩ := i1.box.cells
      rw [hap] at q1
      have lx := i1.box.lt
      have hmw : wrap64 ((st.applied : Int) + 1) = (st.applied : Int) + 1 := IntWalk.wrap64_in _ (by have := HHA.out; omega)
      have hmw2 : IntKind.i64.wrap ((st.applied : Int) + 1) = (st.applied : Int) + 1 := IntWalk.i64_in _ (by have := HHA.out; omega)
      clear hI2 hC2 hst2 hap i1 i2
      go_wp2_with fail
      exact bodyPost_ret (v := .int .i64 0) (by simp [results, Try.results35, go_sem]) rfl ⟨by rw [HE.out], by rw [HE.out]; exact XPost.inc HI3.out HC3.out HAP.out⟩
    | false =>
      have HE := Lib.hid (HT.out rfl)
      obtain ⟨q1, q2⟩ := HB1.out.cells
      by_cases h1 : (kind == 2) = true
      · by_cases h2 : decide (0 ≤ tag) = true
        · have HE2 := Lib.hid (show r = (incX (trimX st ⟨kind, (sa, sb), ⟨(ia, ib), tags, data⟩, tag, (ua, ub), far⟩), 0) by rw [HE.out, if_pos (show trimsX ⟨kind, (sa, sb), ⟨(ia, ib), tags, data⟩, tag, (ua, ub), far⟩ = true by simp only [trimsX, h1, h2]; rfl)])
          obtain ⟨c, rv, mt, mi, mm, rws, i1, i2⟩ := HI1.out
          have HI := Lib.hid i1
          have HIG := Lib.hid i2
          have hlk := fun y : Later wc => (i1.trs.below y.h).look keyI Try.underlying93 (zeroSeq _) tag true
          rw [trim_look] at hlk
          obtain ⟨⟨⟨oa, ob⟩, is⟩, hq⟩ : ∃ q, trimV st tag = q := ⟨_, rfl⟩
          have HQ := Lib.hid hq
          rw [hq] at hlk
          have hlk2 := hlk ⟨wc.drew, (Below.refl _ _).drew⟩
          have hlk3 := hlk ⟨(wc.alloc (.cells #[.int .i64 0, .int .i64 0] 39)).drew, (below1 wc _).drew⟩
          unfold plV at hlk2 hlk3
          simp only at hlk2 hlk3
          obtain ⟨q3, q4⟩ := i1.box.cells
          have lx := i1.box.lt
          have lb := HB1.out.lt
          clear i1 i2 hlk hq
          go_wp2_with fail
          go_cut [5, 6] (fun v5 v6 wx => v5 = .pointer (some ⟨wc.heap.size, 0, none⟩) ∧ v6 = .bool is ∧ Blk wx wc.heap.size #[.int .i64 oa, .int .i64 ob] 39 ∧ Below wc.heap.size wc wx)
          case first =>
            go_region
            all_goals
              go_wp2_with fail
              go_meet
              exact ⟨rfl, rfl, by (repeat (first | (with_reducible refine Blk.new' ?_; first | rfl | (simp; done) | (simp; omega)) | with_reducible refine Blk.drew ?_ | with_reducible refine Blk.alloc ?_ _)), Ch.below (by (repeat (first | with_reducible assumption | with_reducible exact Ch.refl _ _ | with_reducible refine Ch.drew ?_ | with_reducible refine Ch.alloc ?_ _ | (with_reducible refine Ch.set' ?_ ?_; focus (first | (right; rfl; done) | (left; simp; done) | (left; simp; omega) | (left; omega) | (right; simp; done) | (right; simp; omega))))))⟩
          case rest =>
            obtain ⟨rfl, rfl, hB, hbx⟩ := hcut
            have HBo := Lib.hid hB
            have HB2 := Lib.hid (HB1.out.below hbx)
            have HI2 := Lib.hid (HI.out.below hbx)
            have HW2 := Lib.hid (HW1.out.trans (hbx.mono HW1.out.size))
            have HIG2 := Lib.hid (show ∀ k, G k → k < wc.heap.size ∧ c k = 0 from fun k hk => ⟨Nat.lt_of_lt_of_le (HIG.out k hk).1 hbx.size, (HIG.out k hk).2⟩)
            obtain ⟨z1, z2⟩ := hB.cells
            obtain ⟨z3, z4⟩ := (HB1.out.below hbx).cells
            clear hlk2 hlk3 q1 q2 q3 q4 hB hbx HI HIG HI1 HB1 HW1
            cases is with
            | false =>
              have HE3 := Lib.hid (show r = (incX { st with tr := putA tag (ua, ub) st.tr }, 0) by
                rw [HE2.out]
                unfold trimX
                have hq := HQ.out
                unfold trimV at hq
                cases hga : getA tag st.tr with
                | none => rfl
                | some q => rw [hga] at hq; cases hq)
              have HIX := Lib.hid HI2.out
              have HWX := Lib.hid HW2.out
              have HIGX := Lib.hid HIG2.out
              clear z1 z2 z3 z4
              obtain ⟨q1, q2⟩ := HI2.out.box.laterCells
              obtain ⟨q3, q4⟩ := HB2.out.laterCells
              go_wp2_with fail
              refine wp_region_quiet_tail 8 (C := fun w' => ∃ y : Later wc, w' = y.w) (by kernel_rfl) (by kernel_rfl) ⟨⟨wc.drew, (Below.refl _ _).drew⟩, rfl⟩ ?_
              simp only [List.take_succ_cons, List.take_zero, List.drop_succ_cons, List.drop_zero]
              repeat (go_big_quiet_step (fail))
              refine wpQuiet_nil ?_
              rintro _ ⟨y, rfl⟩
              have HI4 := Lib.hid (HIX.out.below y.h)
              have HW4 := Lib.hid (HWX.out.trans (y.h.mono HWX.out.size))
              have HIG4 := Lib.hid (show ∀ k, G k → k < y.w.heap.size ∧ c k = 0 from fun k hk => ⟨Nat.lt_of_lt_of_le (HIGX.out k hk).1 y.h.size, (HIGX.out k hk).2⟩)
              obtain ⟨w4, hw4⟩ : ∃ w4, w4 = y.w := ⟨_, rfl⟩
              rw [← hw4] at HI4 HW4 HIG4 ⊢
              clear hw4 q1 q2 q3 q4
              go_wp2_with (at_mapUpdate; refine wpList_store_map rfl _ _ _ 93 rfl keyI Try.underlying93 rfl HI4.out.trs tag (ua, ub) rfl rfl ?_)
              intro w5 hm5 hc5
              have HI5 := Lib.hid (HI4.out.putTr hm5 hc5)
              have HIX5 := Lib.hid (show Ix G w5 x { st with tr := putA tag (ua, ub) st.tr } from HI5.out.ix (fun k hk => ⟨Nat.lt_of_lt_of_le (HIG4.out k hk).1 hc5.size, (HIG4.out k hk).2⟩))
              have HC5 := Lib.hid (show Ch (fun k => ¬ G k) w w5 from (Ch.of_below (fun k => ¬ G k) HW4.out).trans (hc5.mono (fun k e hk => by have h1 := (HIG4.out k hk).2; rw [e, HI4.out.cm] at h1; cases h1)))
              clear hm5 hc5
              obtain ⟨q1, q2⟩ := HI5.out.box.cells
              have lx5 := HI5.out.box.lt
              have hmw : wrap64 ((st.applied : Int) + 1) = (st.applied : Int) + 1 := IntWalk.wrap64_in _ (by have := HHA.out; omega)
              have hmw2 : IntKind.i64.wrap ((st.applied : Int) + 1) = (st.applied : Int) + 1 := IntWalk.i64_in _ (by have := HHA.out; omega)
              go_wp2_with fail
              exact bodyPost_ret (v := .int .i64 0) (by simp [results, Try.results35, go_sem]) rfl ⟨by rw [HE3.out], by rw [HE3.out]; exact XPost.inc HIX5.out HC5.out rfl⟩
            | true =>
              have hga : getA tag st.tr = some (oa, ob) := by
                have hq := HQ.out
                unfold trimV at hq
                cases hga : getA tag st.tr with
                | none => rw [hga] at hq; cases hq
                | some q => rw [hga] at hq; cases hq; rfl
              have HGA := Lib.hid hga
              clear hga
              have HL := Lib.hid (fun w' => less_any (oa, ob) (ua, ub) w')
              obtain ⟨d, hd⟩ : ∃ d, lessP (oa, ob) (ua, ub) = d := ⟨_, rfl⟩
              rw [hd] at HL
              have HD := Lib.hid hd
              unfold plV at HL
              simp only at HL
              clear hd
              go_wp2_with fail
              refine (HL.out _).mono ?_
              rintro e w3 ⟨rfl, hb3⟩
              have HIX := Lib.hid (HI2.out.below hb3)
              have HBX := Lib.hid (HB2.out.below hb3)
              have HWX := Lib.hid (HW2.out.trans (hb3.mono HW2.out.size))
              have HIGX := Lib.hid (show ∀ k, G k → k < w3.heap.size ∧ c k = 0 from fun k hk => ⟨Nat.lt_of_lt_of_le (HIG2.out k hk).1 hb3.size, (HIG2.out k hk).2⟩)
              clear z1 z2 z3 z4 hb3
              cases d with
              | true =>
                have HE3 := Lib.hid (show r = (incX { st with tr := putA tag (ua, ub) st.tr }, 0) by
                  rw [HE2.out]
                  unfold trimX
                  simp only [HGA.out, HD.out, if_true])
                obtain ⟨q1, q2⟩ := HIX.out.box.laterCells
                obtain ⟨q3, q4⟩ := HBX.out.laterCells
                go_wp2_with fail
                refine wp_region_quiet_tail 8 (C := fun w' => ∃ y : Later w3, w' = y.w) (by kernel_rfl) (by kernel_rfl) ⟨⟨w3.drew, (Below.refl _ _).drew⟩, rfl⟩ ?_
                simp only [List.take_succ_cons, List.take_zero, List.drop_succ_cons, List.drop_zero]
                repeat (go_big_quiet_step (fail))
                refine wpQuiet_nil ?_
                rintro _ ⟨y, rfl⟩
                have HI4 := Lib.hid (HIX.out.below y.h)
                have HW4 := Lib.hid (HWX.out.trans (y.h.mono HWX.out.size))
                have HIG4 := Lib.hid (show ∀ k, G k → k < y.w.heap.size ∧ c k = 0 from fun k hk => ⟨Nat.lt_of_lt_of_le (HIGX.out k hk).1 y.h.size, (HIGX.out k hk).2⟩)
                obtain ⟨w4, hw4⟩ : ∃ w4, w4 = y.w := ⟨_, rfl⟩
                rw [← hw4] at HI4 HW4 HIG4 ⊢
                clear hw4 q1 q2 q3 q4
                go_wp2_with (at_mapUpdate; refine wpList_store_map rfl _ _ _ 93 rfl keyI Try.underlying93 rfl HI4.out.trs tag (ua, ub) rfl rfl ?_)
                intro w5 hm5 hc5
                have HI5 := Lib.hid (HI4.out.putTr hm5 hc5)
                have HIX5 := Lib.hid (show Ix G w5 x { st with tr := putA tag (ua, ub) st.tr } from HI5.out.ix (fun k hk => ⟨Nat.lt_of_lt_of_le (HIG4.out k hk).1 hc5.size, (HIG4.out k hk).2⟩))
                have HC5 := Lib.hid (show Ch (fun k => ¬ G k) w w5 from (Ch.of_below (fun k => ¬ G k) HW4.out).trans (hc5.mono (fun k e hk => by have h1 := (HIG4.out k hk).2; rw [e, HI4.out.cm] at h1; cases h1)))
                clear hm5 hc5
                obtain ⟨q1, q2⟩ := HI5.out.box.cells
                have lx5 := HI5.out.box.lt
                have hmw : wrap64 ((st.applied : Int) + 1) = (st.applied : Int) + 1 := IntWalk.wrap64_in _ (by have := HHA.out; omega)
                have hmw2 : IntKind.i64.wrap ((st.applied : Int) + 1) = (st.applied : Int) + 1 := IntWalk.i64_in _ (by have := HHA.out; omega)
                go_wp2_with fail
                exact bodyPost_ret (v := .int .i64 0) (by simp [results, Try.results35, go_sem]) rfl ⟨by rw [HE3.out], by rw [HE3.out]; exact XPost.inc HIX5.out HC5.out rfl⟩
              | false =>
                have HE3 := Lib.hid (show r = (incX st, 0) by
                  rw [HE2.out]
                  unfold trimX
                  simp only [HGA.out, HD.out]
                  rfl)
                obtain ⟨q1, q2⟩ := HIX.out.box.cells
                have lx5 := HIX.out.box.lt
                have hmw : wrap64 ((st.applied : Int) + 1) = (st.applied : Int) + 1 := IntWalk.wrap64_in _ (by have := HHA.out; omega)
                have hmw2 : IntKind.i64.wrap ((st.applied : Int) + 1) = (st.applied : Int) + 1 := IntWalk.i64_in _ (by have := HHA.out; omega)
                go_wp2_with fail
                exact bodyPost_ret (v := .int .i64 0) (by simp [results, Try.results35, go_sem]) rfl ⟨by rw [HE3.out], by rw [HE3.out]; exact XPost.inc (HIX.out.ix HIGX.out) (Ch.of_below _ HWX.out) rfl⟩
        · simp only [Bool.not_eq_true] at h2
          have HE2 := Lib.hid (show r = (st, 1) by rw [HE.out, if_neg (show ¬ trimsX ⟨kind, (sa, sb), ⟨(ia, ib), tags, data⟩, tag, (ua, ub), far⟩ = true by simp only [trimsX, h2]; simp)])
          go_wp2_with fail
          exact bodyPost_ret (v := .int .i64 1) (by simp [results, Try.results35, go_sem]) rfl ⟨by rw [HE2.out], by rw [HE2.out]; exact ⟨HI1.out, Ch.of_below _ HW1.out⟩⟩
      · simp only [Bool.not_eq_true] at h1
        have HE2 := Lib.hid (show r = (st, 1) by rw [HE.out, if_neg (show ¬ trimsX ⟨kind, (sa, sb), ⟨(ia, ib), tags, data⟩, tag, (ua, ub), far⟩ = true by simp only [trimsX, h1]; simp)])
        go_wp2_with fail
        exact bodyPost_ret (v := .int .i64 1) (by simp [results, Try.results35, go_sem]) rfl ⟨by rw [HE2.out], by rw [HE2.out]; exact ⟨HI1.out, Ch.of_below _ HW1.out⟩⟩
end Go.Proofs.Ytpdibjaeopcimaa
