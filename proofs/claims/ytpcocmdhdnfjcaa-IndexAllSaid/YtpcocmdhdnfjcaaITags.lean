/- IndexTags: the walk. -/
import Derived.Test.YtpcocmdhdnfjcaaIq
import Derived.Test.YtpcocmdhdnfjcaaIt
import Derived.Test.YtpcocmdhdnfjcaaIFl
set_option linter.unusedVariables false
set_option linter.unusedSimpArgs false
namespace Go.Proofs.Ytpcocmdhdnfjcaa
open Go.RowKit

attribute [local go_sem high] eqId eqSeq
/-- A loop that only reads. -/
def RdLoop (wA : World) (n : Nat) (v : Value) (wi : World) : Prop := ∃ k : Nat, v = .int .i64 (k : Int) ∧ k ≤ n ∧ Below wA.heap.size wA wi
set_option maxRecDepth 100000 in
set_option maxHeartbeats 16000000 in
theorem tags_main {v : Value} (l : List (It × Value)) (tag : Int) (w : World) (hv : ItsAt (fun k => k < w.heap.size) w v l) (hm : l.length ≤ 140737488351232) (htl : ∀ p ∈ l, p.1.r.tags.length ≤ 140737488351232) :
    Calls Try.prog 4 #[v, .int .i64 tag] w fun e w' => e = .returned (.bool true) ∧ Below w.heap.size w w' := by
  have HFW := Lib.hid (few_any l w hv hm)
  have HFI := Lib.hid (fun w' (hb : Below w.heap.size w w') (h60 : l.length ≤ 60) (hlo : ∀ p ∈ l, lowI p.1) => filled_any l w' ((hv.below hb).old) h60 hlo htl)
  obtain ⟨la, lcap, rfl, _, _⟩ := hv.row.slice
  clear hv hm htl
  go_enter Try.func4, Try.ntmps4
  go_wp2_with fail
  refine HFW.out.mono ?_
  rintro e w1 ⟨b, rfl, hfew, hb1⟩
  have HB1 := Lib.hid hb1
  clear hb1 HFW
  cases b with
  | false =>
    go_wp2_with fail
    refine (alive_any _).mono ?_
    rintro e w3 ⟨rfl, hb3⟩
    go_wp2_with fail
    go_ret
    exact ⟨rfl, HB1.out.trans (hb3.mono HB1.out.size)⟩
  | true =>
    have HF := Lib.hid (HFI.out w1 HB1.out (hfew rfl).1 (hfew rfl).2)
    have HM := Lib.hid (hfew rfl).1
    clear hfew HFI
    go_wp2_with fail
    refine HF.out.mono ?_
    rintro e w2 ⟨x, rv, G, st, L, rfl, hR, hI, hS, hlo, hrl, hLl, hsub⟩
    obtain ⟨ra, rcap, rfl, _, _⟩ := hI.row.slice
    unfold docV
    have HR := Lib.hid hR
    have HX := Lib.hid (show ∀ w', Below w2.heap.size w2 w' → Ix G w' x st from fun w' hb => hR.ix.below' hb)
    have HG := Lib.hid hR.good
    have HLO := Lib.hid hlo
    have HRL := Lib.hid (show st.rows.length ≤ 60 by have := HM.out; omega)
    have HB2 := Lib.hid (HB1.out.trans (hR.ch.mono HB1.out.size))
    clear hR hI hS hlo hrl hLl hsub HF
    have hbs := below2 w2 (.cells #[.slice ra L.length rcap] 48) (.cells #[.int .i64 1152921504606846976, .int .i64 0] 29)
    have HRA := Lib.hid (xrange_any 0 (0, 0) topP _ (HX.out _ hbs) HG.out (by have := HRL.out; omega))
    rw [range_all HG.out HLO.out 0] at HRA
    unfold plV topP at HRA
    have hT3 := Blk.new (w2.alloc (.cells #[.slice ra L.length rcap] 48)) #[.int .i64 1152921504606846976, .int .i64 0] 29
    rw [show (w2.alloc (.cells #[.slice ra L.length rcap] 48)).heap.size = w2.heap.size + 1 by simp] at hT3
    have HT3 := Lib.hid hT3
    obtain ⟨w3, hw3⟩ : ∃ w3, w3 = (w2.alloc (.cells #[.slice ra L.length rcap] 48)).alloc (.cells #[.int .i64 1152921504606846976, .int .i64 0] 29) := ⟨_, rfl⟩
    rw [← hw3] at HRA HT3 hbs
    have HB3 := Lib.hid hbs
    clear hT3 hbs
    go_wp2_with fail
    rw [← hw3]
    clear hw3
    refine HRA.out.mono ?_
    rintro e w4 ⟨av, rfl, hav, hb4⟩
    have HAV := Lib.hid hav
    have HB4 := Lib.hid (HB3.out.trans (hb4.mono HB3.out.size))
    have HRB := Lib.hid (xrange_any tag (0, 0) topP _ (HX.out _ HB4.out) HG.out (by have := HRL.out; omega))
    rw [range_all HG.out HLO.out tag] at HRB
    unfold plV topP at HRB
    obtain ⟨q1, q2⟩ := (HT3.out.below hb4).cells
    obtain ⟨aa, acap, hae, _, _⟩ := hav.slice
    subst hae
    clear hav hb4 HRA
    go_wp2_with fail
    refine HRB.out.mono ?_
    rintro e w5 ⟨bv, rfl, hbv, hb5⟩
    have HBV := Lib.hid hbv
    have HAV5 := Lib.hid (show PRow _ _ _ _ from HAV.out.below hb5)
    have HB5 := Lib.hid (HB4.out.trans (hb5.mono HB4.out.size))
    obtain ⟨ba, bcap, hbe, _, _⟩ := hbv.slice
    subst hbe
    have HLEN := Lib.hid (show (allX st tag).length ≤ 60 from Nat.le_trans (all_len st tag) HRL.out)
    have HLEN0 := Lib.hid (show (allX st 0).length ≤ 60 from Nat.le_trans (all_len st 0) HRL.out)
    clear hbv hb5 HRB q1 q2 HAV
    go_wp2_with fail
    go_loopw [38] (fun v wi => RdLoop w5 (allX st tag).length v wi) (fun i _ => (allX st tag).length - (intOf i).toNat)
    case atStart => exact ⟨0, rfl, Nat.zero_le _, Below.refl _ _⟩
    case round =>
      obtain ⟨j, rfl, hj, hbr⟩ := hrel
      have HBR := Lib.hid hbr
      have HBX := Lib.hid (HB5.out.trans (hbr.mono HB5.out.size))
      clear hbr
      by_cases hlt : j < (allX st tag).length
      · have ht : decide ((j : Int) < ((allX st tag).length : Int)) = true := by simpa using hlt
        obtain ⟨s, hs⟩ : ∃ s, (allX st tag)[j]? = some s := ⟨_, List.getElem?_eq_getElem hlt⟩
        obtain ⟨g2, off2, cap2, e2, hat2⟩ := (HBV.out.below HBR.out).at plO_len hs
        cases e2
        obtain ⟨r, hr, hrs⟩ := all_at hs
        have hnx := next_at HG.out hr
        have hmem := List.mem_of_getElem? hr
        rw [hrs] at hnx
        have HHAS := Lib.hid (show hasR r.r tag = true from (mem_count.1 hmem).2.1)
        have HIN0 := Lib.hid (show (allX st 0).contains s = true by
          rw [List.contains_iff_exists_mem_beq]
          exact ⟨s, hrs ▸ all_zero hmem, by simp⟩)
        have HSM := Lib.hid (good_small HG.out tag r hmem)
        obtain ⟨s1, s2⟩ := s
        have d0 : wr.cell? ⟨g2, off2 + j * 2, none⟩ = some (.int .i64 s1) := by simpa using hat2 0 _ rfl
        have d1 : wr.cell? ⟨g2, off2 + j * 2 + 1, none⟩ = some (.int .i64 s2) := by simpa [Nat.add_assoc] using hat2 1 _ rfl
        have md := (cell_spot d0).2
        simp only at md
        have hbs := below1 wr (.cells #[.int .i64 s1, .int .i64 s2] 29)
        have HBs := Lib.hid (Blk.new wr #[.int .i64 s1, .int .i64 s2] 29)
        have HNX := xnext_any tag (s1, s2) _ (HX.out _ (HBX.out.trans (hbs.mono HBX.out.size))) HG.out (by have := HRL.out; omega)
        rw [hnx] at HNX
        unfold plV at HNX
        have HNX := Lib.hid HNX
        have HW3 := Lib.hid (show wrap64 ((j : Int) + 1) = (j : Int) + 1 from IntWalk.wrap64_in _ (by have := HLEN.out; omega))
        have HLT3 := Lib.hid hlt
        have HbS := Lib.hid hbs
        have HRS := Lib.hid hrs
        clear hat2 hs hbs hr hnx hmem hrs hlt
        go_wp2_with fail
        refine HNX.out.mono ?_
        rintro e w7 ⟨tv, rfl, htv, hb7⟩
        obtain ⟨ta, tcap, hte, _, _⟩ := htv.slice
        subst hte
        obtain ⟨⟨pa, pb⟩, ⟨⟨ia, ib⟩, tags, data⟩⟩ := r
        have hrs := HRS.out
        simp only [Prod.mk.injEq] at hrs
        obtain ⟨rfl, rfl⟩ := hrs
        unfold recV plV
        simp only [Option.getD_some, Option.isSome_some] at htv ⊢
        have hb9 := below2 w7 (.cells #[.int .i64 ia, .int .i64 ib, .slice ta tags.length tcap, .string data] 34) (.cells #[.int .i64 pa, .int .i64 pb] 29)
        have hb79 := hb7.trans (hb9.mono hb7.size)
        have HB9 := Lib.hid (HbS.out.trans (hb79.mono HbS.out.size))
        have HBs9 := Lib.hid (HBs.out.below hb79)
        have HRr := Lib.hid ((Blk.new w7 #[.int .i64 ia, .int .i64 ib, .slice ta tags.length tcap, .string data] 34).alloc (.cells #[.int .i64 pa, .int .i64 pb] 29))
        have hPr := Blk.new (w7.alloc (.cells #[.int .i64 ia, .int .i64 ib, .slice ta tags.length tcap, .string data] 34)) #[.int .i64 pa, .int .i64 pb] 29
        rw [show (w7.alloc (.cells #[.int .i64 ia, .int .i64 ib, .slice ta tags.length tcap, .string data] 34)).heap.size = w7.heap.size + 1 by simp] at hPr
        have HPr := Lib.hid hPr
        have HHA := Lib.hid (rhas_any ⟨(ia, ib), tags, data⟩ (.slice ta tags.length tcap) tag _ (htv.below hb9) (Nat.le_trans HSM.out (by decide)))
        rw [HHAS.out] at HHA
        unfold recV at HHA
        simp only at HHA
        obtain ⟨z1, z2⟩ := (HBs.out.below hb7).cells
        have lz := (HBs.out.below hb7).lt
        have heq : (pa == pa && (pb == pb)) = true := by simp
        clear hb7 hb79 hPr htv hb9 HNX d0 d1
        go_wp2_with fail
        obtain ⟨w9, hw9⟩ : ∃ w9, w9 = (w7.alloc (.cells #[.int .i64 ia, .int .i64 ib, .slice ta tags.length tcap, .string data] 34)).alloc (.cells #[.int .i64 pa, .int .i64 pb] 29) := ⟨_, rfl⟩
        rw [← hw9] at HB9 HBs9 HRr HPr HHA ⊢
        clear hw9 z1 z2 lz
        refine HHA.out.mono ?_
        rintro e w10 ⟨rfl, hb10⟩
        have HB10 := Lib.hid (HB9.out.trans (hb10.mono HB9.out.size))
        obtain ⟨z1, z2⟩ := (HBs9.out.below hb10).cells
        have HIN := Lib.hid (in_any (allX st 0) (pa, pb) w10 (VRow.of_own (S := fun _ => True) plO_len (HAV5.out.below (HBR.out.trans (HB10.out.mono HBR.out.size))) (fun _ _ => trivial)) (by have := HLEN0.out; omega))
        rw [HIN0.out] at HIN
        unfold plV at HIN
        clear hb10 HHA
        go_wp2_with fail
        refine HIN.out.mono ?_
        rintro e w11 ⟨rfl, hb11⟩
        have HB11 := Lib.hid (HBR.out.trans ((HB10.out.trans (hb11.mono HB10.out.size)).mono HBR.out.size))
        clear hb11 HIN z1 z2
        go_wp2_with fail
        go_roundw
        case rel => exact ⟨j + 1, (by first | rfl | (rw [HW3.out]; rfl)), HLT3.out, HB11.out⟩
        case measure => first | exact rt_meas HW3.out HLT3.out | exact rt_meas2 HLT3.out
      · have ht : decide ((j : Int) < ((allX st tag).length : Int)) = false := by simpa using hlt
        have ht2 : decide ((allX st tag).length ≤ j) = true := by simp; omega
        have ht3 : decide (j < (allX st tag).length) = false := by simpa using hlt
        have HBE := Lib.hid (HB2.out.trans (HBX.out.mono HB2.out.size))
        go_wp2_with fail
        refine (alive_any _).mono ?_
        rintro e w8 ⟨rfl, hb8⟩
        go_wp2_with fail
        go_ret
        exact ⟨rfl, HBE.out.trans (hb8.mono HBE.out.size)⟩
/-- IndexTags, as its row asks. -/
theorem tags_row {v : Value} (l : List (It × Value)) (tag : Int) (w : World) (ro : VRow (fun k => k < w.heap.size) 12 itO w v l) (ok : ∀ p ∈ l, VRow (fun k => k < w.heap.size) 1 intO w p.2 p.1.r.tags ∧ p.1.r.tags.length ≤ 140737488351232 ∧ p.1.r.data.size ≤ 140737488351232) (hl : l.length * 120 ≤ 140737488351232) (_ : (Lit.int .i64 tag).wf = true) :
    Calls Try.prog 4 #[v, .int .i64 tag] w fun e w' => e = .returned (.bool true) ∧ Below w.heap.size w w' :=
  tags_main l tag w (its_of ro ok) (by omega) (fun p hp => (ok p hp).2.1)
end Go.Proofs.Ytpcocmdhdnfjcaa
