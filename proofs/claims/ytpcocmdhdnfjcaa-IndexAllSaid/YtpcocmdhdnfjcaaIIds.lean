/- IndexIds: the walk. -/
import Derived.Test.YtpcocmdhdnfjcaaIu
import Derived.Test.YtpcocmdhdnfjcaaIt
import Derived.Test.YtpcocmdhdnfjcaaITags
set_option linter.unusedVariables false
set_option linter.unusedSimpArgs false
namespace Go.Proofs.Ytpcocmdhdnfjcaa
open Go.RowKit

section
variable {α : Type} {S : Nat → Prop} {sz : Nat} {out : α → List Value} {w : World} {v : Value} {xs : List α}
/-- The first ones of a row. -/
theorem VRow.take {a : Option Addr} {n cap : Nat} (h : VRow S sz out w (.slice a n cap) xs) {k : Nat} (hk : k ≤ xs.length) : VRow S sz out w (.slice a k cap) (xs.take k) := by
  obtain ⟨a', cap', e, h1, h2, h3⟩ := h
  cases e
  refine ⟨a, cap, by rw [List.length_take, Nat.min_eq_left hk], by rw [List.length_take]; omega, h2, fun i x hx => ?_⟩
  refine h3 i x ?_
  rw [List.getElem?_take] at hx
  split at hx
  · exact hx
  · cases hx
end
theorem run_slice_to {P : Program} {w : World} {t e : TypeId} (hu : P.underlying t = some (.slice e)) {sz : Nat} (hi : (sizeOf e).run P w = .ok sz w) (g off len cap k : Nat) (hk : k ≤ len) (hc : len ≤ cap) :
    (Instr.slice t (.slice (some ⟨g, off, none⟩) len cap) none (some (.int .i64 (k : Nat))) none).run P w = .ok (.slice (some ⟨g, off, none⟩) k cap) w := by
  have hkc : k ≤ cap := by omega
  simp [Instr.slice, run_underlying hu, Instr.sliceBounds, Instr.sliceBound, go_sem, hi, hk, hkc, Result.andThen]
theorem sizeSeq (w : World) : (sizeOf 29).run Try.prog w = .ok 2 w := by kernel_rfl
/-- Places rise: none comes twice. -/
theorem all_once {st : XSt} (hg : GoodX st) {t : Int} {j : Nat} {s : Pl} (h : (allX st t)[j]? = some s) : ((allX st t).take j).contains s = false := by
  rw [← Bool.not_eq_true, List.contains_iff_exists_mem_beq]
  rintro ⟨q, hq, e⟩
  rw [beq_iff_eq] at e
  subst e
  obtain ⟨i, hi, e2⟩ := List.getElem_of_mem hq
  rw [List.length_take] at hi
  rw [List.getElem_take] at e2
  have hl := List.getElem?_eq_some_iff.1 h
  have hu : (allX st t).Pairwise fun a b => lessP a b = true := by
    unfold allX
    exact List.pairwise_map.2 (good_count hg t)
  have hp := List.pairwise_iff_getElem.1 hu i j (by omega) hl.1 (by omega)
  rw [hl.2, e2, less_irr] at hp
  cases hp
attribute [local go_sem high] eqId eqSeq
set_option maxRecDepth 100000 in
set_option maxHeartbeats 16000000 in
theorem ids_main {v : Value} (l : List (It × Value)) (id : Pl) (w : World) (hv : ItsAt (fun k => k < w.heap.size) w v l) (hm : l.length ≤ 140737488351232) (htl : ∀ p ∈ l, p.1.r.tags.length ≤ 140737488351232) :
    Calls Try.prog 5 #[v, plV id] w fun e w' => e = .returned (.bool true) ∧ Below w.heap.size w w' := by
  obtain ⟨ia0, ib0⟩ := id
  have hb0 := below1 w (.cells #[.int .i64 ia0, .int .i64 ib0] 31)
  have B0 := Blk.new w #[.int .i64 ia0, .int .i64 ib0] 31
  obtain ⟨w0, hw0⟩ : ∃ w0, w0 = w.alloc (.cells #[.int .i64 ia0, .int .i64 ib0] 31) := ⟨_, rfl⟩
  rw [← hw0] at hb0 B0
  have hv0 := (hv.below hb0).old
  have HFW := Lib.hid (few_any l w0 hv0 hm)
  have HFI := Lib.hid (fun w' (hb : Below w0.heap.size w0 w') (h60 : l.length ≤ 60) (hlo : ∀ p ∈ l, lowI p.1) => filled_any l w' ((hv0.below hb).old) h60 hlo htl)
  have HB0 := Lib.hid B0
  have HW0 := Lib.hid hb0
  obtain ⟨la, lcap, rfl, _, _⟩ := hv.row.slice
  unfold plV
  clear hv hv0 hm htl hb0 B0
  go_enter Try.func5, Try.ntmps5
  go_wp2_with fail
  rw [← hw0]
  clear hw0
  refine HFW.out.mono ?_
  rintro e w1 ⟨b, rfl, hfew, hb1⟩
  have HB1 := Lib.hid hb1
  clear hb1 HFW
  cases b with
  | false =>
    go_wp2_with fail
    refine (alive_any _).mono ?_
    rintro e w3 ⟨rfl, hb3⟩
    go_wp2_with fail
    go_ret
    exact ⟨rfl, HW0.out.trans ((HB1.out.trans (hb3.mono HB1.out.size)).mono HW0.out.size)⟩
  | true =>
    have HF := Lib.hid (HFI.out w1 HB1.out (hfew rfl).1 (hfew rfl).2)
    have HM := Lib.hid (hfew rfl).1
    clear hfew HFI
    go_wp2_with fail
    refine HF.out.mono ?_
    rintro e w2 ⟨x, rv, G, st, L, rfl, hR, hI, hS, hlo, hrl, hLl, hsub⟩
    obtain ⟨ra, rcap, rfl, _, _⟩ := hI.row.slice
    unfold docV
    have HR := Lib.hid hR
    have HX := Lib.hid (show ∀ w', Below w2.heap.size w2 w' → Ix G w' x st from fun w' hb => hR.ix.below' hb)
    have HI := Lib.hid (show ∀ w', Below w2.heap.size w2 w' → ItsAt G w' _ L from fun w' hb => hI.below hb)
    have HG := Lib.hid hR.good
    have HLO := Lib.hid hlo
    have HRL := Lib.hid (show st.rows.length ≤ 60 by have := HM.out; omega)
    have HLL := Lib.hid (show L.length ≤ 60 by have := HM.out; omega)
    have HB2 := Lib.hid (HB1.out.trans (hR.ch.mono HB1.out.size))
    have HFS := Lib.hid (find_same hS (ia0, ib0))
    clear hR hI hS hlo hrl hLl hsub HF
    have hbs := below1 w2 (.cells #[.slice ra L.length rcap] 48)
    have hD := Blk.new w2 #[.slice ra L.length rcap] 48
    obtain ⟨⟨⟨fa, fb⟩, fis⟩, hfd⟩ : ∃ q, findD (its L) (ia0, ib0) = q := ⟨_, rfl⟩
    have hfx := HFS.out
    rw [hfd] at hfx
    have HFX := xfind_any (ia0, ib0) _ (HX.out _ hbs)
    rw [hfx] at HFX
    unfold plV at HFX
    have HFX := Lib.hid HFX
    have HFD := Lib.hid hfd
    have hB2 := (HB0.out.below HB2.out).below hbs
    obtain ⟨w3, hw3⟩ : ∃ w3, w3 = w2.alloc (.cells #[.slice ra L.length rcap] 48) := ⟨_, rfl⟩
    rw [← hw3] at HFX hD hbs hB2
    have HB3 := Lib.hid hbs
    have HD3 := Lib.hid hD
    have HBi3 := Lib.hid hB2
    obtain ⟨q1, q2⟩ := (HB0.out.below HB2.out).cells
    have l1 := (HB0.out.below HB2.out).lt
    clear hbs hD hfd hfx hB2
    go_wp2_with fail
    rw [← hw3]
    clear hw3 q1 q2 l1
    refine HFX.out.mono ?_
    rintro e w4 ⟨rfl, hb4⟩
    have HB4 := Lib.hid (HB3.out.trans (hb4.mono HB3.out.size))
    have HBi4 := Lib.hid (HBi3.out.below hb4)
    have HD4 := Lib.hid (HD3.out.below hb4)
    have hba := below1 w4 (.cells #[.int .i64 fa, .int .i64 fb] 29)
    have hA := Blk.new w4 #[.int .i64 fa, .int .i64 fb] 29
    have HFR := rfind_any L (ia0, ib0) _ (HI.out _ (HB4.out.trans (hba.mono HB4.out.size))) (by have := HLL.out; omega)
    rw [HFD.out] at HFR
    unfold plV docV at HFR
    have HFR := Lib.hid HFR
    obtain ⟨q1, q2⟩ := HBi4.out.cells
    obtain ⟨q3, q4⟩ := HD4.out.cells
    have l1 := HBi4.out.lt
    have l2 := HD4.out.lt
    obtain ⟨w5, hw5⟩ : ∃ w5, w5 = w4.alloc (.cells #[.int .i64 fa, .int .i64 fb] 29) := ⟨_, rfl⟩
    rw [← hw5] at HFR hA hba
    have HB5 := Lib.hid (HB4.out.trans (hba.mono HB4.out.size))
    have HA5 := Lib.hid hA
    clear hb4 hba hA HFX
    go_wp2_with fail
    rw [← hw5]
    clear hw5 q1 q2 q3 q4 l1 l2
    refine HFR.out.mono ?_
    rintro e w6 ⟨rfl, hb6⟩
    have HB6 := Lib.hid (HB5.out.trans (hb6.mono HB5.out.size))
    have hbc := below1 w6 (.cells #[.int .i64 fa, .int .i64 fb] 29)
    have hC := Blk.new w6 #[.int .i64 fa, .int .i64 fb] 29
    obtain ⟨q1, q2⟩ := (HA5.out.below hb6).cells
    have l1 := (HA5.out.below hb6).lt
    have HRA := Lib.hid (xrange_any 0 (0, 0) topP _ (HX.out _ (HB6.out.trans (hbc.mono HB6.out.size))) HG.out (by have := HRL.out; omega))
    rw [range_all HG.out HLO.out 0] at HRA
    unfold plV topP at HRA
    have HB7 := Lib.hid (HB6.out.trans (hbc.mono HB6.out.size))
    have heq : (fa == fa && (fb == fb)) = true := by simp
    have hfe : (fis != fis) = false := by simp
    clear hb6 hbc hC HFR
    go_wp2_with fail
    refine HRA.out.mono ?_
    rintro e w8 ⟨av, rfl, hav, hb8⟩
    have HAV := Lib.hid hav
    have HB8 := Lib.hid (HB7.out.trans (hb8.mono HB7.out.size))
    obtain ⟨aa, acap, hae, _, _⟩ := hav.slice
    subst hae
    have HLEN := Lib.hid (show (allX st 0).length ≤ 60 from Nat.le_trans (all_len st 0) HRL.out)
    clear hav hb8 HRA q1 q2 l1 heq hfe
    go_wp2_with fail
    go_loopw [58] (fun v wi => RdLoop w8 (allX st 0).length v wi) (fun i _ => (allX st 0).length - (intOf i).toNat)
    case atStart => exact ⟨0, rfl, Nat.zero_le _, Below.refl _ _⟩
    case round =>
      obtain ⟨j, rfl, hj, hbr⟩ := hrel
      have HBR := Lib.hid hbr
      have HBX := Lib.hid (HB8.out.trans (hbr.mono HB8.out.size))
      clear hbr
      by_cases hlt : j < (allX st 0).length
      · have ht : decide ((j : Int) < ((allX st 0).length : Int)) = true := by simpa using hlt
        obtain ⟨s, hs⟩ : ∃ s, (allX st 0)[j]? = some s := ⟨_, List.getElem?_eq_getElem hlt⟩
        have hAw := HAV.out.below HBR.out
        have hAs : VRow (fun _ => True) 2 plO wr (.slice aa (allX st 0).length acap) (allX st 0) := VRow.of_own plO_len hAw (fun _ _ => trivial)
        obtain ⟨g2, off2, cap2, e2, hat2⟩ := hAw.at plO_len hs
        cases e2
        obtain ⟨r, hr, hrs⟩ := all_at hs
        have hnx := next_at HG.out hr
        have hmem := List.mem_of_getElem? hr
        rw [hrs] at hnx
        have hfr := find_row HG.out (mem_count.1 hmem).1
        have HTK := Lib.hid (hAs.take (Nat.le_of_lt hlt))
        have HONE := Lib.hid (all_once HG.out hs)
        have HACAP := Lib.hid (show (allX st 0).length ≤ acap from by obtain ⟨_, _, e, h1, _⟩ := hAs; cases e; exact h1)
        obtain ⟨s1, s2⟩ := s
        have d0 : wr.cell? ⟨g2, off2 + j * 2, none⟩ = some (.int .i64 s1) := by simpa using hat2 0 _ rfl
        have d1 : wr.cell? ⟨g2, off2 + j * 2 + 1, none⟩ = some (.int .i64 s2) := by simpa [Nat.add_assoc] using hat2 1 _ rfl
        have hbs := below1 wr (.cells #[.int .i64 s1, .int .i64 s2] 29)
        have HBs := Lib.hid (Blk.new wr #[.int .i64 s1, .int .i64 s2] 29)
        have HNX := xnext_any 0 (s1, s2) _ (HX.out _ (HBX.out.trans (hbs.mono HBX.out.size))) HG.out (by have := HRL.out; omega)
        rw [hnx] at HNX
        unfold plV at HNX
        have HNX := Lib.hid HNX
        have HW3 := Lib.hid (show wrap64 ((j : Int) + 1) = (j : Int) + 1 from IntWalk.wrap64_in _ (by have := HLEN.out; omega))
        have HLT3 := Lib.hid hlt
        have HbS := Lib.hid hbs
        have HRS := Lib.hid hrs
        have HFRr := Lib.hid hfr
        clear hat2 hs hbs hr hnx hmem hrs hlt hAw hAs hfr
        go_wp2_with fail
        refine HNX.out.mono ?_
        rintro e w9 ⟨tv, rfl, htv, hb9⟩
        obtain ⟨ta, tcap, hte, _, _⟩ := htv.slice
        subst hte
        obtain ⟨⟨pa, pb⟩, ⟨⟨ia, ib⟩, tags, data⟩⟩ := r
        have hrs := HRS.out
        simp only [Prod.mk.injEq] at hrs
        obtain ⟨rfl, rfl⟩ := hrs
        unfold recV plV
        simp only [Option.getD_some, Option.isSome_some] at htv ⊢
        have hba := below2 w9 (.cells #[.int .i64 ia, .int .i64 ib, .slice ta tags.length tcap, .string data] 34) (.cells #[.int .i64 pa, .int .i64 pb] 29)
        have hb9a := hb9.trans (hba.mono hb9.size)
        have HBA := Lib.hid (HbS.out.trans (hb9a.mono HbS.out.size))
        have HBsA := Lib.hid (HBs.out.below hb9a)
        have hRr := ((Blk.new w9 #[.int .i64 ia, .int .i64 ib, .slice ta tags.length tcap, .string data] 34).alloc (.cells #[.int .i64 pa, .int .i64 pb] 29))
        have HFY := xfind_any (ia, ib) _ (HX.out _ (HBX.out.trans (HBA.out.mono HBX.out.size)))
        have hfr := HFRr.out
        simp only at hfr
        rw [hfr] at HFY
        unfold plV at HFY
        have HFY := Lib.hid HFY
        obtain ⟨wa, hwa⟩ : ∃ wa, wa = (w9.alloc (.cells #[.int .i64 ia, .int .i64 ib, .slice ta tags.length tcap, .string data] 34)).alloc (.cells #[.int .i64 pa, .int .i64 pb] 29) := ⟨_, rfl⟩
        rw [← hwa] at HBA HBsA hRr HFY
        have HRr := Lib.hid hRr
        clear hb9 hb9a hba htv HNX d0 d1 hRr hfr
        go_wp2_with fail
        rw [← hwa]
        clear hwa
        refine HFY.out.mono ?_
        rintro e wb ⟨rfl, hbb⟩
        have hbn := below1 wb (.cells #[.int .i64 pa, .int .i64 pb] 29)
        have HBC := Lib.hid (HBA.out.trans ((hbb.trans (hbn.mono hbb.size)).mono HBA.out.size))
        have hS1 := (HBsA.out.below hbb).below hbn
        have hS2 := Blk.new wb #[.int .i64 pa, .int .i64 pb] 29
        obtain ⟨wc, hwc⟩ : ∃ wc, wc = wb.alloc (.cells #[.int .i64 pa, .int .i64 pb] 29) := ⟨_, rfl⟩
        rw [← hwc] at HBC hS1 hS2
        have HS1 := Lib.hid hS1
        have HS2 := Lib.hid hS2
        have HIN := Lib.hid (fun y : Later wc => in_any ((allX st 0).take j) (pa, pb) y.w ((HTK.out.below HBC.out).below y.h) (by rw [List.length_take]; have := HLEN.out; omega))
        rw [HONE.out] at HIN
        unfold plV at HIN
        have hsl := fun W => run_slice_to (P := Try.prog) (w := W) (t := 27) Try.underlying27 (sizeSeq W) g2 off2 (allX st 0).length acap j (Nat.le_of_lt HLT3.out) HACAP.out
        have HSL := Lib.hid hsl
        clear hbb hbn hS1 hS2 HFY hsl
        go_wp2_with fail
        rw [← hwc]
        clear hwc
        have hsl := HSL.out
        have heq : (pa == pa && (pb == pb)) = true := by simp
        obtain ⟨z1, z2⟩ := HS1.out.laterCells
        obtain ⟨z3, z4⟩ := HS2.out.laterCells
        refine wp_region_later (by kernel_rfl) (by kernel_rfl) ?_
        repeat (go_big_quiet_step (first | (go_at_call 14; exact Calls.later (HIN.out _))))
        refine wpQuiet_nil ?_
        rintro _ ⟨y, rfl⟩
        have HBD := Lib.hid (HBR.out.trans ((HBC.out.trans (y.h.mono HBC.out.size)).mono HBR.out.size))
        go_wp2_with fail
        go_roundw
        case rel => exact ⟨j + 1, (by first | rfl | (rw [HW3.out]; rfl)), HLT3.out, HBD.out⟩
        case measure => first | exact rt_meas HW3.out HLT3.out | exact rt_meas2 HLT3.out
      · have ht : decide ((j : Int) < ((allX st 0).length : Int)) = false := by simpa using hlt
        have ht2 : decide ((allX st 0).length ≤ j) = true := by simp; omega
        have ht3 : decide (j < (allX st 0).length) = false := by simpa using hlt
        have HBE := Lib.hid (HB2.out.trans (HBX.out.mono HB2.out.size))
        go_wp2_with fail
        refine (alive_any _).mono ?_
        rintro e w8 ⟨rfl, hb8⟩
        go_wp2_with fail
        go_ret
        exact ⟨rfl, HW0.out.trans ((HBE.out.trans (hb8.mono HBE.out.size)).mono HW0.out.size)⟩
/-- IndexIds, as its row asks. -/
theorem ids_row {v : Value} (l : List (It × Value)) (id : Pl) (w : World) (ro : VRow (fun k => k < w.heap.size) 12 itO w v l) (ok : ∀ p ∈ l, VRow (fun k => k < w.heap.size) 1 intO w p.2 p.1.r.tags ∧ p.1.r.tags.length ≤ 140737488351232 ∧ p.1.r.data.size ≤ 140737488351232) (hl : l.length * 120 ≤ 140737488351232) (_ : (Lit.int .i64 id.1).wf = true ∧ (Lit.int .i64 id.2).wf = true) :
    Calls Try.prog 5 #[v, plV id] w fun e w' => e = .returned (.bool true) ∧ Below w.heap.size w w' :=
  ids_main l id w (its_of ro ok) (by omega) (fun p hp => (ok p hp).2.1)
end Go.Proofs.Ytpcocmdhdnfjcaa
