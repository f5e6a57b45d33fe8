/- index's reference: Counting. -/
import Derived.Test.YtpcocmdhdnfjcaaIw
import Derived.Test.YtpcocmdhdnfjcaaIsm
set_option linter.unusedVariables false
set_option linter.unusedSimpArgs false
namespace Go.Proofs.Ytpcocmdhdnfjcaa
open Go.RowKit

/-- The items that count, with their tags' rows. -/
def countL (l : List (It × Value)) (t : Int) : List (It × Value) := l.filter fun p => countsD (its l) t p.1
theorem count_its (l : List (It × Value)) (t : Int) : its (countL l t) = countD (its l) t := by
  unfold countL countD
  unfold its
  rw [List.filter_map]
  rfl
/-- Counting's loop. -/
def CoIn (wA : World) (l : List (It × Value)) (t : Int) (v5 v10 : Value) (wi : World) : Prop :=
  ∃ (k : Nat) (ys : List (It × Value)), v10 = .int .i64 (k : Int) ∧ k ≤ l.length ∧ ys = (l.take k).filter (fun p => countsD (its l) t p.1) ∧ ORow 12 itO wi wA.heap.size v5 ys ∧ Below wA.heap.size wA wi
theorem count_take {l : List (It × Value)} {k : Nat} {p : It × Value} (h : l[k]? = some p) (f : It × Value → Bool) : (l.take (k + 1)).filter f = (l.take k).filter f ++ (if f p = true then [p] else []) := by
  rw [List.take_add_one, h, List.filter_append]
  simp [List.filter_cons]
theorem countsD_kind {L : List It} {t : Int} {i : It} (h : (i.kind == 1) = false) : countsD L t i = false := by unfold countsD; rw [h]; rfl
theorem countsD_has {L : List It} {t : Int} {i : It} (h : hasR i.r t = false) : countsD L t i = false := by unfold countsD; rw [h, Bool.and_false]; rfl
theorem ORow.base {α : Type} {sz : Nat} {out : α → List Value} {w : World} {b b' : Nat} {v : Value} {xs : List α} (h : ORow sz out w b v xs) (hb : b' ≤ b) : ORow sz out w b' v xs := by
  rcases h with h | ⟨g, off, cap, h1, h2, h3⟩
  · exact .inl h
  · exact .inr ⟨g, off, cap, h1, Nat.le_trans hb h2, h3⟩
attribute [local go_sem high] eqId eqSeq
set_option maxRecDepth 100000 in
set_option maxHeartbeats 16000000 in
theorem rcounting_any {S : Nat → Prop} {v : Value} (l : List (It × Value)) (t : Int) (w : World) (h : ItsAt S w v l) (hm : l.length ≤ 60) (htl : ∀ p ∈ l, p.1.r.tags.length ≤ 140737488351232) :
    Calls Try.prog 27 #[docV v, .int .i64 t] w fun e w' => (∃ v', e = .returned v' ∧ ORow 12 itO w' w.heap.size v' (countL l t)) ∧ Below w.heap.size w w' := by
  have hb0 := below1 w (.cells #[v] 48)
  have B0 := Blk.new w #[v] 48
  obtain ⟨w0, hw0⟩ : ∃ w0, w0 = w.alloc (.cells #[v] 48) := ⟨_, rfl⟩
  rw [← hw0] at hb0 B0
  have HV := Lib.hid (h.old.below hb0)
  have HB := Lib.hid hb0
  have HB0 := Lib.hid B0
  have HM := Lib.hid hm
  have HTL := Lib.hid htl
  have HLL := Lib.hid (show (its l).length = l.length by simp [its])
  have HTA := rtrimmed_any l t w0 (h.below hb0) (by omega)
  have HT0 := Lib.hid (fun w' (hb : Below w0.heap.size w0 w') => rtrimmed_any l 0 w' (HV.out.below hb) (by omega))
  have HFI := Lib.hid (fun id w' (hb : Below w0.heap.size w0 w') => rfind_any l id w' (HV.out.below hb) (by omega))
  obtain ⟨⟨⟨xa, xb⟩, xis⟩, hx⟩ : ∃ q, trimD (its l) t = q := ⟨_, rfl⟩
  obtain ⟨⟨⟨za, zb⟩, zis⟩, hz⟩ : ∃ q, trimD (its l) 0 = q := ⟨_, rfl⟩
  rw [hx] at HTA
  have HX := Lib.hid hx
  have HZ := Lib.hid hz
  obtain ⟨a, cap, rfl, _, _⟩ := h.row.slice
  unfold docV plV at HTA
  have HTA := Lib.hid HTA
  unfold docV
  clear h hm hb0 B0 hx hz htl
  obtain ⟨q1, q2⟩ := HB0.out.cells
  have l1 := HB0.out.lt
  go_enter Try.func27, Try.ntmps27
  go_wp2_with fail
  rw [← hw0]
  clear hw0 q1 q2 l1
  refine HTA.out.mono ?_
  rintro e w1 ⟨rfl, hb1⟩
  have hba := below1 w1 (.cells #[.int .i64 xa, .int .i64 xb] 29)
  have hA := Blk.new w1 #[.int .i64 xa, .int .i64 xb] 29
  have hT0 := HT0.out _ (hb1.trans (hba.mono hb1.size))
  rw [HZ.out] at hT0
  unfold docV plV at hT0
  obtain ⟨q1, q2⟩ := (HB0.out.below hb1).cells
  have l1 := (HB0.out.below hb1).lt
  obtain ⟨w2, hw2⟩ : ∃ w2, w2 = w1.alloc (.cells #[.int .i64 xa, .int .i64 xb] 29) := ⟨_, rfl⟩
  have hb2 := hb1.trans (hba.mono hb1.size)
  rw [← hw2] at hA hT0 hb2
  have HA2 := Lib.hid hA
  have HTZ := Lib.hid hT0
  have HB2 := Lib.hid hb2
  have HBX := Lib.hid (HB0.out.below hb2)
  have HA2l := Lib.hid (show w.heap.size < w1.heap.size from Nat.lt_of_lt_of_le HB0.out.lt hb1.size)
  clear hb1 hba hA hT0 hb2 HTA HT0
  go_wp2_with fail
  rw [← hw2]
  clear hw2 q1 q2 l1
  refine HTZ.out.mono ?_
  rintro e w3 ⟨rfl, hb3⟩
  have hba := below1 w3 (.cells #[.int .i64 za, .int .i64 zb] 29)
  have hZ := Blk.new w3 #[.int .i64 za, .int .i64 zb] 29
  have hb4 := hb3.trans (hba.mono hb3.size)
  obtain ⟨wA, hwA⟩ : ∃ wA, wA = w3.alloc (.cells #[.int .i64 za, .int .i64 zb] 29) := ⟨_, rfl⟩
  rw [← hwA] at hZ hb4
  have HZA := Lib.hid hZ
  have HXA := Lib.hid (HA2.out.below hb4)
  have HBA := Lib.hid (HBX.out.below hb4)
  have HB4 := Lib.hid (HB2.out.trans (hb4.mono HB2.out.size))
  clear hb3 hba hZ hb4 HTZ HA2
  go_wp2_with fail
  rw [← hwA]
  clear hwA
  go_loopw [5, 10] (fun v5 v10 wi => CoIn wA l t v5 v10 wi) (fun _ i _ => l.length - (intOf i).toNat)
  case atStart => exact ⟨0, [], rfl, Nat.zero_le _, rfl, ORow.nil _ _, Below.refl _ _⟩
  case round =>
    obtain ⟨k, ys, rfl, hk, hys, hrow, hbr⟩ := hrel
    have HBR := Lib.hid hbr
    have HYS := Lib.hid hys
    have HROW := Lib.hid hrow
    obtain ⟨ya, ycap, rfl, _, _⟩ := hrow.slice
    have HBG := Lib.hid (HB4.out.trans (hbr.mono HB4.out.size))
    have HV2 := Lib.hid (HV.out.below HBG.out)
    obtain ⟨q1, q2⟩ := (HBA.out.below hbr).cells
    have l1 := (HBA.out.below hbr).lt
    have HYL := Lib.hid (show ys.length ≤ 60 by rw [hys]; exact Nat.le_trans (List.length_filter_le _ _) (by rw [List.length_take]; have := HM.out; omega))
    clear hbr hys hrow
    by_cases hlt : k < l.length
    · have ht : decide ((k : Int) < (l.length : Int)) = true := by simpa using hlt
      obtain ⟨⟨i, tv⟩, hp⟩ : ∃ p, l[k]? = some p := ⟨_, List.getElem?_eq_getElem hlt⟩
      obtain ⟨g, off, cap2, e, hg, hS, htv, c0, c1, c2, c3, c4, c5, c6, c7, c8, c9, c10, c11⟩ := HV2.out.item hp
      cases e
      have HTK := Lib.hid (count_take hp (fun p => countsD (its l) t p.1))
      have HTVr := Lib.hid htv
      have HTLi := Lib.hid (HTL.out _ (List.mem_of_getElem? hp))
      obtain ⟨ta, tcap, hte, _, _⟩ := htv.slice
      subst hte
      have HW2 := Lib.hid (show wrap64 ((k : Int) + 1) = (k : Int) + 1 from IntWalk.wrap64_in _ (by have := HM.out; omega))
      have HLT := Lib.hid hlt
      obtain ⟨kind, ⟨sa, sb⟩, ⟨⟨ia, ib⟩, tags, data⟩, tag, ⟨ua, ub⟩, ⟨ea, eb⟩⟩ := i
      simp only at c0 c1 c2 c3 c4 c5 c6 c7 c8 c9 c10 c11 htv
      have hby := below1 wr (.cells #[.int .i64 kind, .int .i64 sa, .int .i64 sb, .int .i64 ia, .int .i64 ib, .slice ta tags.length tcap, .string data, .int .i64 tag, .int .i64 ua, .int .i64 ub, .int .i64 ea, .int .i64 eb] 38)
      have hY := Blk.new wr #[.int .i64 kind, .int .i64 sa, .int .i64 sb, .int .i64 ia, .int .i64 ib, .slice ta tags.length tcap, .string data, .int .i64 tag, .int .i64 ua, .int .i64 ub, .int .i64 ea, .int .i64 eb] 38
      have HY := Lib.hid hY
      have HbY := Lib.hid hby
      have HHA := rhas_any ⟨(ia, ib), tags, data⟩ (.slice ta tags.length tcap) t _ (htv.below hby) HTLi.out
      obtain ⟨hh, hhh⟩ : ∃ b, hasR ⟨(ia, ib), tags, data⟩ t = b := ⟨_, rfl⟩
      rw [hhh] at HHA
      unfold recV at HHA
      have HHA := Lib.hid HHA
      have HHH := Lib.hid hhh
      clear hp htv hlt hg hS hby hY hhh
      by_cases h1 : (kind == 1) = true
      · have h1' : (kind != 1) = false := by unfold bne; rw [h1]; rfl
        go_wp2_with fail
        refine HHA.out.mono ?_
        rintro e w4 ⟨rfl, hb4⟩
        clear q1 q2 l1 c0 c1 c2 c3 c4 c5 c6 c7 c8 c9 c10 c11
        have HY4 := Lib.hid (HY.out.below hb4)
        have HBY4 := Lib.hid (HbY.out.trans (hb4.mono HbY.out.size))
        cases hh with
        | true =>
          obtain ⟨q1, q2⟩ := (HBA.out.below (HBR.out.trans (HBY4.out.mono HBR.out.size))).cells
          have l1 := (HBA.out.below (HBR.out.trans (HBY4.out.mono HBR.out.size))).lt
          obtain ⟨z1, z2⟩ := HY4.out.cells
          have l2 := HY4.out.lt
          have HFR := HFI.out (ia, ib) w4 (HB4.out.trans ((HBR.out.trans (HBY4.out.mono HBR.out.size)).mono HB4.out.size))
          obtain ⟨⟨⟨fa, fb⟩, fis⟩, hf⟩ : ∃ q, findD (its l) (ia, ib) = q := ⟨_, rfl⟩
          rw [hf] at HFR
          unfold docV plV at HFR
          have HFR := Lib.hid HFR
          obtain ⟨bb, hbb⟩ : ∃ bb, ((fa == sa && (fb == sb)) && okD ((xa, xb), xis) (sa, sb) && okD ((za, zb), zis) (sa, sb)) = bb := ⟨_, rfl⟩
          have HCB := Lib.hid (show countsD (its l) t ⟨kind, (sa, sb), ⟨(ia, ib), tags, data⟩, tag, (ua, ub), (ea, eb)⟩ = bb by
            unfold countsD
            simp only
            rw [h1, HHH.out, hf, HX.out, HZ.out, ← hbb]
            rfl)
          have HBB := Lib.hid hbb
          clear hf hbb hb4
          go_wp2_with fail
          refine HFR.out.mono ?_
          rintro e w5 ⟨rfl, hb5⟩
          have hb6 := hb5.trans ((below1 w5 (.cells #[.int .i64 fa, .int .i64 fb] 29)).mono hb5.size)
          have HB6 := Lib.hid (HBY4.out.trans (hb6.mono HBY4.out.size))
          have hbw := HBR.out.trans ((HBY4.out.trans (hb5.mono HBY4.out.size)).mono HBR.out.size)
          have HX5 := Lib.hid (HXA.out.below hbw)
          have HZ5 := Lib.hid (HZA.out.below hbw)
          have HY5 := Lib.hid (HY4.out.below hb5)
          clear hb5 hb6 hbw q1 q2 l1 z1 z2 l2
          obtain ⟨q1, q2⟩ := HX5.out.cells
          obtain ⟨q3, q4⟩ := HZ5.out.cells
          obtain ⟨z1, z2⟩ := HY5.out.cells
          have l1 := HX5.out.lt
          have l2 := HZ5.out.lt
          have l3 := HY5.out.lt
          have hbb := HBB.out
          unfold okD at hbb
          simp only at hbb
          have HLX := Lib.hid (fun W => rless_any (xa, xb) (sa, sb) W)
          have HLZ := Lib.hid (fun W => rless_any (za, zb) (sa, sb) W)
          obtain ⟨lx, hlx⟩ : ∃ b, lessP (xa, xb) (sa, sb) = b := ⟨_, rfl⟩
          obtain ⟨lz, hlz⟩ : ∃ b, lessP (za, zb) (sa, sb) = b := ⟨_, rfl⟩
          rw [hlx] at HLX hbb
          rw [hlz] at HLZ hbb
          unfold plV at HLX HLZ
          simp only at HLX HLZ
          clear hlx hlz HBB
          by_cases e1 : (fa == sa && (fb == sb)) = true
          · cases xis with
            | false =>
              cases zis with
              | false =>
                obtain rfl : bb = true := by rw [← hbb, e1]; rfl
                clear hbb
                have htk := HTK.out
                rw [HCB.out, if_pos rfl, ← HYS.out] at htk
                have HTK2 := Lib.hid htk
                have HBY7 := Lib.hid HB6.out
                have HRW := Lib.hid (HROW.out.below HBY7.out)
                have HBW := Lib.hid (HBR.out.trans (HBY7.out.mono HBR.out.size))
                clear htk

                go_wp2_with (at_builtin; refine wpList_append_item rfl (.tmp 79) (.tmp 81) rfl rfl rfl (x := (⟨kind, (sa, sb), ⟨(ia, ib), tags, data⟩, tag, (ua, ub), (ea, eb)⟩, .slice ta tags.length tcap)) rfl (HRW.out.below (below1 _ (.cells #[.int .i64 kind, .int .i64 sa, .int .i64 sb, .int .i64 ia, .int .i64 ib, .slice ta tags.length tcap, .string data, .int .i64 tag, .int .i64 ua, .int .i64 ub, .int .i64 ea, .int .i64 eb] 38))) (Blk.new' (by simp)) (by have := HBW.out.size; simp at this ⊢; omega) (by have := HYL.out; omega) ?_)
                intro g2 off2 cap2 w9 hown hgrow hg2
                have HOW9 := Lib.hid hown
                have HB9 := Lib.hid (show Below wA.heap.size wA w9 from Ch.below (((Ch.of_below (fun _ => False) HBW.out).alloc (.cells #[.int .i64 kind, .int .i64 sa, .int .i64 sb, .int .i64 ia, .int .i64 ib, .slice ta tags.length tcap, .string data, .int .i64 tag, .int .i64 ua, .int .i64 ub, .int .i64 ea, .int .i64 eb] 38)).step (Ch.of_grown hgrow) (fun j hj e => by have := (HRW.out.own e.symm).1; omega)))
                clear hown hgrow hg2
                go_wp2_with fail
                go_roundw
                case rel => exact ⟨k + 1, ys ++ [(⟨kind, (sa, sb), ⟨(ia, ib), tags, data⟩, tag, (ua, ub), (ea, eb)⟩, Value.slice ta tags.length tcap)], (by first | rfl | (rw [HW2.out]; rfl)), HLT.out, HTK2.out.symm, HOW9.out, HB9.out⟩
                case measure => first | exact rt_meas HW2.out HLT.out | exact rt_meas2 HLT.out
              | true =>
                cases lz with
                | true =>
                  obtain rfl : bb = true := by rw [← hbb, e1]; rfl
                  clear hbb
                  go_wp2_with fail
                  refine (HLZ.out _).mono ?_
                  rintro e w7 ⟨rfl, hb7⟩
                  have htk := HTK.out
                  rw [HCB.out, if_pos rfl, ← HYS.out] at htk
                  have HTK2 := Lib.hid htk
                  have HBY7 := Lib.hid (HB6.out.trans (hb7.mono HB6.out.size))
                  have HRW := Lib.hid (HROW.out.below HBY7.out)
                  have HBW := Lib.hid (HBR.out.trans (HBY7.out.mono HBR.out.size))
                  clear htk
                  obtain ⟨v1, v2⟩ := (HY5.out.alloc (.cells #[.int .i64 fa, .int .i64 fb] 29) |>.below hb7).cells
                  have l9 := (HY5.out.alloc (.cells #[.int .i64 fa, .int .i64 fb] 29) |>.below hb7).lt
                  go_wp2_with (at_builtin; refine wpList_append_item rfl (.tmp 79) (.tmp 81) rfl rfl rfl (x := (⟨kind, (sa, sb), ⟨(ia, ib), tags, data⟩, tag, (ua, ub), (ea, eb)⟩, .slice ta tags.length tcap)) rfl (HRW.out.below (below1 _ (.cells #[.int .i64 kind, .int .i64 sa, .int .i64 sb, .int .i64 ia, .int .i64 ib, .slice ta tags.length tcap, .string data, .int .i64 tag, .int .i64 ua, .int .i64 ub, .int .i64 ea, .int .i64 eb] 38))) (Blk.new' (by simp)) (by have := HBW.out.size; simp at this ⊢; omega) (by have := HYL.out; omega) ?_)
                  intro g2 off2 cap2 w9 hown hgrow hg2
                  have HOW9 := Lib.hid hown
                  have HB9 := Lib.hid (show Below wA.heap.size wA w9 from Ch.below (((Ch.of_below (fun _ => False) HBW.out).alloc (.cells #[.int .i64 kind, .int .i64 sa, .int .i64 sb, .int .i64 ia, .int .i64 ib, .slice ta tags.length tcap, .string data, .int .i64 tag, .int .i64 ua, .int .i64 ub, .int .i64 ea, .int .i64 eb] 38)).step (Ch.of_grown hgrow) (fun j hj e => by have := (HRW.out.own e.symm).1; omega)))
                  clear hown hgrow hg2
                  go_wp2_with fail
                  go_roundw
                  case rel => exact ⟨k + 1, ys ++ [(⟨kind, (sa, sb), ⟨(ia, ib), tags, data⟩, tag, (ua, ub), (ea, eb)⟩, Value.slice ta tags.length tcap)], (by first | rfl | (rw [HW2.out]; rfl)), HLT.out, HTK2.out.symm, HOW9.out, HB9.out⟩
                  case measure => first | exact rt_meas HW2.out HLT.out | exact rt_meas2 HLT.out
                | false =>
                  obtain rfl : bb = false := by rw [← hbb, e1]; rfl
                  clear hbb
                  go_wp2_with fail
                  refine (HLZ.out _).mono ?_
                  rintro e w7 ⟨rfl, hb7⟩
                  have htk := HTK.out
                  rw [HCB.out, if_neg (by simp), List.append_nil, ← HYS.out] at htk
                  have HTK2 := Lib.hid htk
                  have HBY7 := Lib.hid (HB6.out.trans (hb7.mono HB6.out.size))
                  clear htk
                  go_wp2_with fail
                  go_roundw
                  case rel => exact ⟨k + 1, ys, (by first | rfl | (rw [HW2.out]; rfl)), HLT.out, HTK2.out.symm, HROW.out.below HBY7.out, HBR.out.trans (HBY7.out.mono HBR.out.size)⟩
                  case measure => first | exact rt_meas HW2.out HLT.out | exact rt_meas2 HLT.out
            | true =>
              cases lx with
              | false =>
                obtain rfl : bb = false := by rw [← hbb, e1]; rfl
                clear hbb
                go_wp2_with fail
                refine (HLX.out _).mono ?_
                rintro e w7 ⟨rfl, hb7⟩
                have htk := HTK.out
                rw [HCB.out, if_neg (by simp), List.append_nil, ← HYS.out] at htk
                have HTK2 := Lib.hid htk
                have HBY7 := Lib.hid (HB6.out.trans (hb7.mono HB6.out.size))
                clear htk
                go_wp2_with fail
                go_roundw
                case rel => exact ⟨k + 1, ys, (by first | rfl | (rw [HW2.out]; rfl)), HLT.out, HTK2.out.symm, HROW.out.below HBY7.out, HBR.out.trans (HBY7.out.mono HBR.out.size)⟩
                case measure => first | exact rt_meas HW2.out HLT.out | exact rt_meas2 HLT.out
              | true =>
                cases zis with
                | false =>
                  obtain rfl : bb = true := by rw [← hbb, e1]; rfl
                  clear hbb
                  go_wp2_with fail
                  refine (HLX.out _).mono ?_
                  rintro e w7 ⟨rfl, hb7⟩
                  have htk := HTK.out
                  rw [HCB.out, if_pos rfl, ← HYS.out] at htk
                  have HTK2 := Lib.hid htk
                  have HBY7 := Lib.hid (HB6.out.trans (hb7.mono HB6.out.size))
                  have HRW := Lib.hid (HROW.out.below HBY7.out)
                  have HBW := Lib.hid (HBR.out.trans (HBY7.out.mono HBR.out.size))
                  clear htk
                  obtain ⟨v1, v2⟩ := (HY5.out.alloc (.cells #[.int .i64 fa, .int .i64 fb] 29) |>.below hb7).cells
                  have l9 := (HY5.out.alloc (.cells #[.int .i64 fa, .int .i64 fb] 29) |>.below hb7).lt
                  go_wp2_with (at_builtin; refine wpList_append_item rfl (.tmp 79) (.tmp 81) rfl rfl rfl (x := (⟨kind, (sa, sb), ⟨(ia, ib), tags, data⟩, tag, (ua, ub), (ea, eb)⟩, .slice ta tags.length tcap)) rfl (HRW.out.below (below1 _ (.cells #[.int .i64 kind, .int .i64 sa, .int .i64 sb, .int .i64 ia, .int .i64 ib, .slice ta tags.length tcap, .string data, .int .i64 tag, .int .i64 ua, .int .i64 ub, .int .i64 ea, .int .i64 eb] 38))) (Blk.new' (by simp)) (by have := HBW.out.size; simp at this ⊢; omega) (by have := HYL.out; omega) ?_)
                  intro g2 off2 cap2 w9 hown hgrow hg2
                  have HOW9 := Lib.hid hown
                  have HB9 := Lib.hid (show Below wA.heap.size wA w9 from Ch.below (((Ch.of_below (fun _ => False) HBW.out).alloc (.cells #[.int .i64 kind, .int .i64 sa, .int .i64 sb, .int .i64 ia, .int .i64 ib, .slice ta tags.length tcap, .string data, .int .i64 tag, .int .i64 ua, .int .i64 ub, .int .i64 ea, .int .i64 eb] 38)).step (Ch.of_grown hgrow) (fun j hj e => by have := (HRW.out.own e.symm).1; omega)))
                  clear hown hgrow hg2
                  go_wp2_with fail
                  go_roundw
                  case rel => exact ⟨k + 1, ys ++ [(⟨kind, (sa, sb), ⟨(ia, ib), tags, data⟩, tag, (ua, ub), (ea, eb)⟩, Value.slice ta tags.length tcap)], (by first | rfl | (rw [HW2.out]; rfl)), HLT.out, HTK2.out.symm, HOW9.out, HB9.out⟩
                  case measure => first | exact rt_meas HW2.out HLT.out | exact rt_meas2 HLT.out
                | true =>
                  cases lz with
                  | true =>
                    obtain rfl : bb = true := by rw [← hbb, e1]; rfl
                    clear hbb
                    go_wp2_with fail
                    refine (HLX.out _).mono ?_
                    rintro e w7 ⟨rfl, hb7⟩
                    obtain ⟨x1, x2⟩ := (HZ5.out.alloc (.cells #[.int .i64 fa, .int .i64 fb] 29) |>.below hb7).cells
                    obtain ⟨x3, x4⟩ := (HY5.out.alloc (.cells #[.int .i64 fa, .int .i64 fb] 29) |>.below hb7).cells
                    have l5 := (HZ5.out.alloc (.cells #[.int .i64 fa, .int .i64 fb] 29) |>.below hb7).lt
                    have l6 := (HY5.out.alloc (.cells #[.int .i64 fa, .int .i64 fb] 29) |>.below hb7).lt
                    go_wp2_with fail
                    refine (HLZ.out _).mono ?_
                    rintro e w8 ⟨rfl, hb8⟩
                    have htk := HTK.out
                    rw [HCB.out, if_pos rfl, ← HYS.out] at htk
                    have HTK2 := Lib.hid htk
                    have HBY7 := Lib.hid (HB6.out.trans ((hb7.trans (hb8.mono hb7.size)).mono HB6.out.size))
                    have HRW := Lib.hid (HROW.out.below HBY7.out)
                    have HBW := Lib.hid (HBR.out.trans (HBY7.out.mono HBR.out.size))
                    clear htk
                    obtain ⟨v1, v2⟩ := (HY5.out.alloc (.cells #[.int .i64 fa, .int .i64 fb] 29) |>.below (hb7.trans (hb8.mono hb7.size))).cells
                    have l9 := (HY5.out.alloc (.cells #[.int .i64 fa, .int .i64 fb] 29) |>.below (hb7.trans (hb8.mono hb7.size))).lt
                    go_wp2_with (at_builtin; refine wpList_append_item rfl (.tmp 79) (.tmp 81) rfl rfl rfl (x := (⟨kind, (sa, sb), ⟨(ia, ib), tags, data⟩, tag, (ua, ub), (ea, eb)⟩, .slice ta tags.length tcap)) rfl (HRW.out.below (below1 _ (.cells #[.int .i64 kind, .int .i64 sa, .int .i64 sb, .int .i64 ia, .int .i64 ib, .slice ta tags.length tcap, .string data, .int .i64 tag, .int .i64 ua, .int .i64 ub, .int .i64 ea, .int .i64 eb] 38))) (Blk.new' (by simp)) (by have := HBW.out.size; simp at this ⊢; omega) (by have := HYL.out; omega) ?_)
                    intro g2 off2 cap2 w9 hown hgrow hg2
                    have HOW9 := Lib.hid hown
                    have HB9 := Lib.hid (show Below wA.heap.size wA w9 from Ch.below (((Ch.of_below (fun _ => False) HBW.out).alloc (.cells #[.int .i64 kind, .int .i64 sa, .int .i64 sb, .int .i64 ia, .int .i64 ib, .slice ta tags.length tcap, .string data, .int .i64 tag, .int .i64 ua, .int .i64 ub, .int .i64 ea, .int .i64 eb] 38)).step (Ch.of_grown hgrow) (fun j hj e => by have := (HRW.out.own e.symm).1; omega)))
                    clear hown hgrow hg2
                    go_wp2_with fail
                    go_roundw
                    case rel => exact ⟨k + 1, ys ++ [(⟨kind, (sa, sb), ⟨(ia, ib), tags, data⟩, tag, (ua, ub), (ea, eb)⟩, Value.slice ta tags.length tcap)], (by first | rfl | (rw [HW2.out]; rfl)), HLT.out, HTK2.out.symm, HOW9.out, HB9.out⟩
                    case measure => first | exact rt_meas HW2.out HLT.out | exact rt_meas2 HLT.out
                  | false =>
                    obtain rfl : bb = false := by rw [← hbb, e1]; rfl
                    clear hbb
                    go_wp2_with fail
                    refine (HLX.out _).mono ?_
                    rintro e w7 ⟨rfl, hb7⟩
                    obtain ⟨x1, x2⟩ := (HZ5.out.alloc (.cells #[.int .i64 fa, .int .i64 fb] 29) |>.below hb7).cells
                    obtain ⟨x3, x4⟩ := (HY5.out.alloc (.cells #[.int .i64 fa, .int .i64 fb] 29) |>.below hb7).cells
                    have l5 := (HZ5.out.alloc (.cells #[.int .i64 fa, .int .i64 fb] 29) |>.below hb7).lt
                    have l6 := (HY5.out.alloc (.cells #[.int .i64 fa, .int .i64 fb] 29) |>.below hb7).lt
                    go_wp2_with fail
                    refine (HLZ.out _).mono ?_
                    rintro e w8 ⟨rfl, hb8⟩
                    have htk := HTK.out
                    rw [HCB.out, if_neg (by simp), List.append_nil, ← HYS.out] at htk
                    have HTK2 := Lib.hid htk
                    have HBY7 := Lib.hid (HB6.out.trans ((hb7.trans (hb8.mono hb7.size)).mono HB6.out.size))
                    clear htk
                    go_wp2_with fail
                    go_roundw
                    case rel => exact ⟨k + 1, ys, (by first | rfl | (rw [HW2.out]; rfl)), HLT.out, HTK2.out.symm, HROW.out.below HBY7.out, HBR.out.trans (HBY7.out.mono HBR.out.size)⟩
                    case measure => first | exact rt_meas HW2.out HLT.out | exact rt_meas2 HLT.out
          · simp only [Bool.not_eq_true] at e1
            obtain rfl : bb = false := by rw [← hbb, e1]; rfl
            clear hbb
            have htk := HTK.out
            rw [HCB.out, if_neg (by simp), List.append_nil, ← HYS.out] at htk
            have HTK2 := Lib.hid htk
            have HBY7 := Lib.hid HB6.out
            clear htk
            go_wp2_with fail
            go_roundw
            case rel => exact ⟨k + 1, ys, (by first | rfl | (rw [HW2.out]; rfl)), HLT.out, HTK2.out.symm, HROW.out.below HBY7.out, HBR.out.trans (HBY7.out.mono HBR.out.size)⟩
            case measure => first | exact rt_meas HW2.out HLT.out | exact rt_meas2 HLT.out
        | false =>
          have htk := HTK.out
          rw [show countsD (its l) t ⟨kind, (sa, sb), ⟨(ia, ib), tags, data⟩, tag, (ua, ub), (ea, eb)⟩ = false from countsD_has HHH.out, if_neg (by simp), List.append_nil, ← HYS.out] at htk
          have HTK2 := Lib.hid htk
          clear htk
          go_wp2_with fail
          go_roundw
          case rel => exact ⟨k + 1, ys, (by first | rfl | (rw [HW2.out]; rfl)), HLT.out, HTK2.out.symm, HROW.out.below HBY4.out, HBR.out.trans (HBY4.out.mono HBR.out.size)⟩
          case measure => first | exact rt_meas HW2.out HLT.out | exact rt_meas2 HLT.out
      · simp only [Bool.not_eq_true] at h1
        have h1' : (kind != 1) = true := by unfold bne; rw [h1]; rfl
        have htk := HTK.out
        rw [show countsD (its l) t ⟨kind, (sa, sb), ⟨(ia, ib), tags, data⟩, tag, (ua, ub), (ea, eb)⟩ = false from countsD_kind h1, if_neg (by simp), List.append_nil, ← HYS.out] at htk
        have HTK2 := Lib.hid htk
        clear htk
        go_wp2_with fail
        go_roundw
        case rel => exact ⟨k + 1, ys, (by first | rfl | (rw [HW2.out]; rfl)), HLT.out, HTK2.out.symm, HROW.out.below HbY.out, HBR.out.trans (HbY.out.mono HBR.out.size)⟩
        case measure => first | exact rt_meas HW2.out HLT.out | exact rt_meas2 HLT.out
    · have ht : decide ((k : Int) < (l.length : Int)) = false := by simpa using hlt
      have ht2 : decide (l.length ≤ k) = true := by simp; omega
      have ht3 : decide (k < l.length) = false := by simpa using hlt
      have HYE := Lib.hid (show ys = countL l t by rw [HYS.out, show k = l.length by omega, List.take_length]; rfl)
      go_wp2_with fail
      go_ret
      refine ⟨⟨_, rfl, ?_⟩, HB.out.trans (HBG.out.mono HB.out.size)⟩
      rw [← HYE.out]
      exact HROW.out.base (by have := HB.out.size; have := HB4.out.size; omega)
end Go.Proofs.Ytpcocmdhdnfjcaa
