/- index's reference: Range. -/
import Derived.Test.YtpcocmdhdnfjcaaIz
set_option linter.unusedVariables false
set_option linter.unusedSimpArgs false
namespace Go.Proofs.Ytpcocmdhdnfjcaa
open Go.RowKit

def inR (a b : Pl) (i : It) : Bool := !lessP i.seq a && lessP i.seq b
/-- The loop of the reference's Range. -/
def RaIn (wA : World) (ys : List (It × Value)) (a b : Pl) (v9 v11 : Value) (wi : World) : Prop := ∃ (k : Nat) (zs : List Pl), v11 = .int .i64 (k : Int) ∧ k ≤ ys.length ∧ zs = ((its (ys.take k)).filter (inR a b)).map (·.seq) ∧ ORow 2 plO wi wA.heap.size v9 zs ∧ Below wA.heap.size wA wi
theorem rangeD_take {ys : List (It × Value)} {k : Nat} {i : It} {tv : Value} (h : ys[k]? = some (i, tv)) (a b : Pl) : ((its (ys.take (k + 1))).filter (inR a b)).map (·.seq) = ((its (ys.take k)).filter (inR a b)).map (·.seq) ++ (if inR a b i = true then [i.seq] else []) := by
  rw [List.take_add_one, h]
  unfold its
  rw [List.map_append, List.filter_append, List.map_append]
  congr 1
  simp only [Option.toList_some, List.map_cons, List.map_nil, List.filter_cons, List.filter_nil]
  split <;> rfl
attribute [local go_sem high] eqId eqSeq
set_option maxRecDepth 100000 in
set_option maxHeartbeats 16000000 in
theorem rrange_any {S : Nat → Prop} {v : Value} (l : List (It × Value)) (t : Int) (a b : Pl) (w : World) (h : ItsAt S w v l) (hm : l.length ≤ 60) (htl : ∀ p ∈ l, p.1.r.tags.length ≤ 140737488351232) :
    Calls Try.prog 26 #[docV v, .int .i64 t, plV a, plV b] w fun e w' => (∃ v', e = .returned v' ∧ VRow (fun _ => True) 2 plO w' v' (rangeD (its l) t a b)) ∧ Below w.heap.size w w' := by
  obtain ⟨aa, ab⟩ := a
  obtain ⟨ba, bb⟩ := b
  obtain ⟨va, cap, rfl, _, _⟩ := h.row.slice
  have hb0 : Below w.heap.size w (((w.alloc (.cells #[.slice va l.length cap] 48)).alloc (.cells #[.int .i64 aa, .int .i64 ab] 29)).alloc (.cells #[.int .i64 ba, .int .i64 bb] 29)) := Ch.below (by (repeat (first | with_reducible assumption | with_reducible exact Ch.refl _ _ | with_reducible refine Ch.drew ?_ | with_reducible refine Ch.alloc ?_ _ | (with_reducible refine Ch.set' ?_ ?_; focus (first | (right; rfl; done) | (left; simp; done) | (left; simp; omega) | (left; omega) | (right; simp; done) | (right; simp; omega))))))
  have B1 := ((Blk.new w #[.slice va l.length cap] 48).alloc (.cells #[.int .i64 aa, .int .i64 ab] 29)).alloc (.cells #[.int .i64 ba, .int .i64 bb] 29)
  have B2 := ((Blk.new (w.alloc (.cells #[.slice va l.length cap] 48)) #[.int .i64 aa, .int .i64 ab] 29)).alloc (.cells #[.int .i64 ba, .int .i64 bb] 29)
  have B3 := (Blk.new ((w.alloc (.cells #[.slice va l.length cap] 48)).alloc (.cells #[.int .i64 aa, .int .i64 ab] 29)) #[.int .i64 ba, .int .i64 bb] 29)
  rw [show (w.alloc (.cells #[.slice va l.length cap] 48)).heap.size = w.heap.size + 1 by simp] at B2
  rw [show ((w.alloc (.cells #[.slice va l.length cap] 48)).alloc (.cells #[.int .i64 aa, .int .i64 ab] 29)).heap.size = w.heap.size + 1 + 1 by simp] at B3
  obtain ⟨w0, hw0⟩ : ∃ w0, w0 = (((w.alloc (.cells #[.slice va l.length cap] 48)).alloc (.cells #[.int .i64 aa, .int .i64 ab] 29)).alloc (.cells #[.int .i64 ba, .int .i64 bb] 29)) := ⟨_, rfl⟩
  rw [← hw0] at hb0 B1 B2 B3
  have hv0 := h.old.below hb0
  have HV := Lib.hid hv0
  have HCO := Lib.hid (rcounting_any l t w0 hv0 hm htl)
  have HB := Lib.hid hb0
  have HB1 := Lib.hid B1
  have HB2 := Lib.hid B2
  have HB3 := Lib.hid B3
  have HM := Lib.hid hm
  unfold docV at HCO
  unfold docV plV
  simp only
  clear h hm hb0 B1 B2 B3 hv0 htl
  obtain ⟨q1, q2⟩ := HB1.out.cells
  have l1 := HB1.out.lt
  go_enter Try.func26, Try.ntmps26
  go_wp2_with fail
  rw [← hw0]
  clear hw0
  refine HCO.out.mono ?_
  rintro e w1 ⟨⟨v', rfl, hrow⟩, hb1⟩
  have HIT := Lib.hid (HV.out.count hb1 hrow)
  have HYL := Lib.hid (show (countL l t).length ≤ 60 from Nat.le_trans (List.length_filter_le _ _) HM.out)
  have HC1 := Lib.hid hb1
  have HRD := Lib.hid (show rangeD (its l) t (aa, ab) (ba, bb) = ((its (countL l t)).filter (inR (aa, ab) (ba, bb))).map (·.seq) by rw [count_its]; rfl)
  obtain ⟨ya, ycap, rfl, _, _⟩ := hrow.slice
  obtain ⟨ys, hys⟩ : ∃ ys, ys = countL l t := ⟨_, rfl⟩
  rw [← hys] at HIT HYL HRD ⊢
  clear hrow hb1 hys HCO q1 q2 l1
  go_wp2_with fail
  go_loopw [9, 11] (fun v9 v11 wi => RaIn w1 ys (aa, ab) (ba, bb) v9 v11 wi) (fun _ i _ => ys.length - (intOf i).toNat)
  case atStart => exact ⟨0, [], rfl, Nat.zero_le _, rfl, ORow.nil _ _, Below.refl _ _⟩
  case round =>
    obtain ⟨k, zs, rfl, hk, hzs, hrow, hbr⟩ := hrel
    have HBR := Lib.hid hbr
    have HZS := Lib.hid hzs
    have HROW := Lib.hid hrow
    have hb01 := HC1.out.trans (hbr.mono HC1.out.size)
    have HBG := Lib.hid hb01
    have HI2 := Lib.hid (HIT.out.below hbr)
    have HB2r := Lib.hid (HB2.out.below hb01)
    have HB3r := Lib.hid (HB3.out.below hb01)
    obtain ⟨za, zcap, rfl, _, _⟩ := hrow.slice
    have HZL := Lib.hid (show zs.length ≤ 60 by rw [hzs, List.length_map]; exact Nat.le_trans (List.length_filter_le _ _) (by unfold its; rw [List.length_map, List.length_take]; have := HYL.out; omega))
    clear hbr hb01 hzs hrow
    by_cases hlt : k < ys.length
    · have ht : decide ((k : Int) < (ys.length : Int)) = true := by simpa using hlt
      obtain ⟨⟨i, tv⟩, hp⟩ : ∃ p, ys[k]? = some p := ⟨_, List.getElem?_eq_getElem hlt⟩
      obtain ⟨g, off, cap2, e, hg, hS, htv, c0, c1, c2, c3, c4, c5, c6, c7, c8, c9, c10, c11⟩ := HI2.out.item hp
      cases e
      have htk := rangeD_take hp (aa, ab) (ba, bb)
      rw [← HZS.out] at htk
      have HTK := Lib.hid htk
      have HW2 := Lib.hid (show wrap64 ((k : Int) + 1) = (k : Int) + 1 from IntWalk.wrap64_in _ (by have := HYL.out; omega))
      have HLT := Lib.hid hlt
      have d1 := fun y : Later wr => (y.h.cell (cell_spot c1).2).trans c1
      have d2 := fun y : Later wr => (y.h.cell (cell_spot c2).2).trans c2
      have C := Lib.hid (fun w' (hb : Below wr.heap.size wr w') => And.intro ((hb.cell (cell_spot c1).2).trans c1) ((hb.cell (cell_spot c2).2).trans c2))
      obtain ⟨q1, q2⟩ := HB2r.out.laterCells
      obtain ⟨q3, q4⟩ := HB3r.out.laterCells
      obtain ⟨la, hla⟩ : ∃ b, lessP i.seq (aa, ab) = b := ⟨_, rfl⟩
      obtain ⟨lb, hlb⟩ : ∃ b, lessP i.seq (ba, bb) = b := ⟨_, rfl⟩
      have HLA := Lib.hid (fun y : Later wr => rless_any i.seq (aa, ab) y.w)
      have HLB := Lib.hid (fun y : Later wr => rless_any i.seq (ba, bb) y.w)
      rw [hla] at HLA
      rw [hlb] at HLB
      have HLG := Lib.hid (fun (q1 q2 : Int) (y : Later wr) => rless_any i.seq (q1, q2) y.w)
      unfold plV at HLA HLB HLG
      simp only at HLG
      have HLAE := Lib.hid hla
      have HLBE := Lib.hid hlb
      have HIN := Lib.hid (show inR (aa, ab) (ba, bb) i = (!la && lb) by unfold inR; rw [hla, hlb])
      clear hp htv htk c0 c1 c2 c3 c4 c5 c6 c7 c8 c9 c10 c11 hlt hla hlb
      go_wp2_with fail
      cases la with
      | true =>
        refine wp_region_later (by kernel_rfl) (by kernel_rfl) ?_
        repeat (go_big_quiet_step (first | (go_at_call 39; exact Calls.later (HLA.out _))))
        refine wpQuiet_nil ?_
        rintro _ ⟨y, rfl⟩
        have HBY := Lib.hid y.h
        have htk := HTK.out
        rw [HIN.out, if_neg (by simp), List.append_nil] at htk
        have HTK2 := Lib.hid htk
        clear htk
        go_wp2_with fail
        go_roundw
        case rel => exact ⟨k + 1, zs, (by first | rfl | (rw [HW2.out]; rfl)), HLT.out, HTK2.out.symm, HROW.out.below HBY.out, HBR.out.trans (HBY.out.mono HBR.out.size)⟩
        case measure => first | exact rt_meas HW2.out HLT.out | exact rt_meas2 HLT.out
      | false =>
        have hla := HLAE.out
        have hlb := HLBE.out
        refine wp_region_later (by kernel_rfl) (by kernel_rfl) ?_
        repeat (go_big_quiet_step (first | (go_at_call 39; exact Calls.later (HLG.out _ _ _))))
        refine wpQuiet_nil ?_
        rintro _ ⟨y, rfl⟩
        have HBY := Lib.hid y.h
        have htk := HTK.out
        rw [HIN.out, Bool.not_false, Bool.true_and] at htk
        obtain ⟨k1, k2⟩ := C.out y.w y.h
        have HROW3 := Lib.hid (HROW.out.below y.h)
        have HBW := Lib.hid (HBR.out.trans (y.h.mono HBR.out.size))
        obtain ⟨w3, hw3⟩ : ∃ w3, w3 = y.w := ⟨_, rfl⟩
        rw [← hw3] at HBY HROW3 HBW k1 k2 ⊢
        clear hw3 d1 d2 q1 q2 q3 q4 C hla hlb
        cases lb with
        | true =>
          rw [if_pos rfl] at htk
          have HTK2 := Lib.hid htk
          clear htk
          obtain ⟨kind, ⟨sa, sb⟩, r, tag, up, far⟩ := i
          simp only at k1 k2
          go_wp2_with (at_builtin; refine wpList_append_seq rfl (.tmp 38) (.tmp 44) rfl rfl rfl (HROW3.out.below (below1 _ (.cells #[.int .i64 sa, .int .i64 sb] 29))) (x := (sa, sb)) (Blk.new' (by simp)) (by have := HBW.out.size; simp; omega) (by have := HZL.out; omega) ?_)
          intro g2 off2 cap2 w9 hown hgrow hg2
          have HOW9 := Lib.hid hown
          have HB9 := Lib.hid (show Below w1.heap.size w1 w9 from Ch.below (((Ch.of_below (fun _ => False) HBW.out).alloc (.cells #[.int .i64 sa, .int .i64 sb] 29)).step (Ch.of_grown hgrow) (fun j hj e => by have := (HROW3.out.own e.symm).1; omega)))
          clear hown hgrow hg2
          go_wp2_with fail
          go_roundw
          case rel => exact ⟨k + 1, zs ++ [(sa, sb)], (by first | rfl | (rw [HW2.out]; rfl)), HLT.out, HTK2.out.symm, HOW9.out, HB9.out⟩
          case measure => first | exact rt_meas HW2.out HLT.out | exact rt_meas2 HLT.out
        | false =>
          rw [if_neg (by simp), List.append_nil] at htk
          have HTK2 := Lib.hid htk
          clear htk
          go_wp2_with fail
          go_roundw
          case rel => exact ⟨k + 1, zs, (by first | rfl | (rw [HW2.out]; rfl)), HLT.out, HTK2.out.symm, HROW3.out, HBW.out⟩
          case measure => first | exact rt_meas HW2.out HLT.out | exact rt_meas2 HLT.out
    · have ht : decide ((k : Int) < (ys.length : Int)) = false := by simpa using hlt
      have ht2 : decide (ys.length ≤ k) = true := by simp; omega
      have ht3 : decide (k < ys.length) = false := by simpa using hlt
      have HZE := Lib.hid (show zs = ((its ys).filter (inR (aa, ab) (ba, bb))).map (·.seq) by rw [HZS.out, show k = ys.length by omega, List.take_length])
      go_wp2_with fail
      go_ret
      refine ⟨⟨_, rfl, ?_⟩, HB.out.trans (HBG.out.mono HB.out.size)⟩
      rw [HRD.out, ← HZE.out]
      exact VRow.of_own plO_len HROW.out (fun _ _ => trivial)
end Go.Proofs.Ytpcocmdhdnfjcaa
