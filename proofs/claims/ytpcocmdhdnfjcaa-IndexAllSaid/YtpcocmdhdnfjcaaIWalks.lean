/- IndexWalks: the walk. -/
import Derived.Test.YtpcocmdhdnfjcaaITags
set_option linter.unusedVariables false
set_option linter.unusedSimpArgs false
namespace Go.Proofs.Ytpcocmdhdnfjcaa
open Go.RowKit

/-- Where the first loop stands behind j rounds. -/
def atN (l : List Pl) (j : Nat) : Pl := match j with
  | 0 => (0, 0)
  | j + 1 => ((l.getD j (0, 0)).1, (l.getD j (0, 0)).2 + 1)
theorem atN_succ (l : List Pl) (j : Nat) : atN l (j + 1) = ((l.getD j (0, 0)).1, (l.getD j (0, 0)).2 + 1) := rfl
theorem less_next (a p : Pl) : lessP a (p.1, p.2 + 1) = !lessP p a := by
  rw [Bool.eq_iff_iff]
  simp only [less_iff, Bool.not_eq_true', ← Bool.not_eq_true]
  omega
theorem firstN_found {rl : List Rw} (h : rowsUp rl) {a : Pl} {k : Nat} (hk : k ≤ rl.length) (h1 : ∀ r, rl[k]? = some r → lessP r.pl a = false) (h2 : ∀ r, 0 < k → rl[k - 1]? = some r → lessP r.pl a = true) : firstN rl a = k := by
  refine (found_first h (a := a) (p := fun i => match rl[i]? with | some q => !lessP q.pl a | none => false) (k := k) (fun i q hq => by simp only [hq]) ⟨hk, fun hl => ?_, fun h0 => ?_⟩).symm
  · obtain ⟨q, hq⟩ : ∃ q, rl[k]? = some q := ⟨_, List.getElem?_eq_getElem hl⟩
    simp only [hq, h1 q hq]
    rfl
  · obtain ⟨q, hq⟩ : ∃ q, rl[k - 1]? = some q := ⟨_, List.getElem?_eq_getElem (by omega)⟩
    simp only [hq, h2 q h0 hq]
    rfl
theorem all_get {st : XSt} {t : Int} {j : Nat} {r : Rw} (h : (countX st t)[j]? = some r) : (allX st t)[j]? = some r.pl := by
  unfold allX
  rw [List.getElem?_map, h]
  rfl
theorem all_n (st : XSt) (t : Int) : (allX st t).length = (countX st t).length := by unfold allX; rw [List.length_map]
theorem walk_next {st : XSt} (hg : GoodX st) (t : Int) {j : Nat} (hj : j ≤ (allX st t).length) : nextX st t (atN (allX st t) j) = (countX st t)[j]? := by
  have e : firstN (countX st t) (atN (allX st t) j) = j := by
    refine firstN_found (good_count hg t) (by rw [← all_n]; exact hj) (fun r hr => ?_) (fun r h0 hr => ?_)
    · cases j with
      | zero =>
        have h2 := hg.ge r (mem_count.1 (List.mem_of_getElem? hr)).1
        rw [← Bool.not_eq_true, less_iff]
        unfold atN
        simp only
        omega
      | succ j =>
        have hl := (List.getElem?_eq_some_iff.1 hr).1
        obtain ⟨q, hq⟩ : ∃ q, (countX st t)[j]? = some q := ⟨_, List.getElem?_eq_getElem (by omega)⟩
        have e1 : (allX st t).getD j (0, 0) = q.pl := by rw [List.getD_eq_getElem?_getD, all_get hq]; rfl
        rw [atN_succ, e1, less_next]
        have h1 := List.pairwise_iff_getElem.1 (good_count hg t) j (j + 1) (by omega) hl (by omega)
        have e2 : (countX st t)[j] = q := by have := List.getElem?_eq_getElem (show j < (countX st t).length by omega); rw [hq] at this; exact (Option.some.inj this).symm
        have e3 : (countX st t)[j + 1] = r := by have := List.getElem?_eq_getElem hl; rw [hr] at this; exact (Option.some.inj this).symm
        rw [e2, e3] at h1
        rw [h1]
        rfl
    · cases j with
      | zero => omega
      | succ j =>
        rw [Nat.add_sub_cancel] at hr
        have e1 : (allX st t).getD j (0, 0) = r.pl := by rw [List.getD_eq_getElem?_getD, all_get hr]; rfl
        rw [atN_succ, e1, less_next, less_irr]
        rfl
  unfold nextX at?
  rw [e, if_neg (by omega), show ((j : Int)).toNat = j by omega]
/-- Where the second loop stands, m being left. -/
def atP (l : List Pl) (m : Nat) : Pl := l.getD m topP
theorem walk_prev {st : XSt} (hg : GoodX st) (hl : lowX st) (t : Int) {m : Nat} (hm : m ≤ (allX st t).length) : prevX st t (atP (allX st t) m) = at? (countX st t) ((m : Int) - 1) := by
  have e : firstN (countX st t) (atP (allX st t) m) = m := by
    cases hr : (countX st t)[m]? with
    | some r =>
      have e1 : atP (allX st t) m = r.pl := by unfold atP; rw [List.getD_eq_getElem?_getD, all_get hr]; rfl
      rw [e1]
      exact firstN_at (good_count hg t) hr
    | none =>
      have hme : m = (countX st t).length := by have := List.getElem?_eq_none_iff.1 hr; rw [all_n] at hm; omega
      have e1 : atP (allX st t) m = topP := by unfold atP; rw [List.getD_eq_getElem?_getD, List.getElem?_eq_none (by rw [all_n]; omega)]; rfl
      rw [e1]
      refine firstN_found (good_count hg t) (by omega) (fun r h => by rw [h] at hr; cases hr) (fun r _ h => ?_)
      have h3 := hl r (mem_count.1 (List.mem_of_getElem? h)).1
      rw [less_iff]
      unfold topP
      simp only
      omega
  unfold prevX
  rw [e]
theorem atP_at {st : XSt} {t : Int} {m : Nat} {r : Rw} (h : (countX st t)[m]? = some r) : atP (allX st t) m = r.pl := by unfold atP; rw [List.getD_eq_getElem?_getD, all_get h]; rfl
theorem atN_at {st : XSt} {t : Int} {m : Nat} {r : Rw} (h : (countX st t)[m]? = some r) : atN (allX st t) (m + 1) = (r.pl.1, r.pl.2 + 1) := by rw [atN_succ, List.getD_eq_getElem?_getD, all_get h]; rfl
/-- The loops. -/
def WnIn (wA : World) (b : Nat) (l : List Pl) (v : Value) (wi : World) : Prop := ∃ j : Nat, v = .int .i64 (j : Int) ∧ j ≤ l.length ∧ Blk wi b #[.int .i64 (atN l j).1, .int .i64 (atN l j).2] 29 ∧ Ch (· = b) wA wi
def WpIn (wA : World) (b : Nat) (l : List Pl) (v : Value) (wi : World) : Prop := ∃ (m : Nat) (i : Int), v = .int .i64 i ∧ i = (m : Int) - 1 ∧ m ≤ l.length ∧ Blk wi b #[.int .i64 (atP l m).1, .int .i64 (atP l m).2] 29 ∧ Ch (· = b) wA wi
theorem wp_meas {k : Nat} (h : wrap64 ((k : Int) - 1) = (k : Int) - 1) : (intOf (.int .i64 (wrap64 ((k : Int) - 1))) + 1).toNat < (intOf (.int .i64 (k : Int)) + 1).toNat := by
  rw [h]
  simp only [intOf]
  omega
theorem wp_meas2 {k : Nat} : (intOf (.int .i64 ((k : Int) - 1)) + 1).toNat < (intOf (.int .i64 (k : Int)) + 1).toNat := by
  simp only [intOf]
  omega
attribute [local go_sem high] eqId eqSeq
set_option maxRecDepth 100000 in
set_option maxHeartbeats 16000000 in
theorem walks_main {v : Value} (l : List (It × Value)) (tag : Int) (w : World) (hv : ItsAt (fun k => k < w.heap.size) w v l) (hm : l.length ≤ 140737488351232) (htl : ∀ p ∈ l, p.1.r.tags.length ≤ 140737488351232) :
    Calls Try.prog 6 #[v, .int .i64 tag] w fun e w' => e = .returned (.bool true) ∧ Below w.heap.size w w' := by
  have HFW := Lib.hid (few_any l w hv hm)
  have HFI := Lib.hid (fun w' (hb : Below w.heap.size w w') (h60 : l.length ≤ 60) (hlo : ∀ p ∈ l, lowI p.1) => filled_any l w' ((hv.below hb).old) h60 hlo htl)
  obtain ⟨la, lcap, rfl, _, _⟩ := hv.row.slice
  clear hv hm htl
  go_enter Try.func6, Try.ntmps6
  go_wp2_with fail
  refine HFW.out.mono ?_
  rintro e w1 ⟨b, rfl, hfew, hb1⟩
  have HB1 := Lib.hid hb1
  clear hb1 HFW
  cases b with
  | false =>
    go_wp2_with fail
    refine (alive_any _).mono ?_
    rintro e w3 ⟨rfl, hb3⟩
    go_wp2_with fail
    go_ret
    exact ⟨rfl, HB1.out.trans (hb3.mono HB1.out.size)⟩
  | true =>
    have HF := Lib.hid (HFI.out w1 HB1.out (hfew rfl).1 (hfew rfl).2)
    have HM := Lib.hid (hfew rfl).1
    clear hfew HFI
    go_wp2_with fail
    refine HF.out.mono ?_
    rintro e w2 ⟨x, rv, G, st, L, rfl, hR, hI, hS, hlo, hrl, hLl, hsub⟩
    obtain ⟨ra, rcap, rfl, _, _⟩ := hI.row.slice
    unfold docV
    have HG := Lib.hid hR.good
    have HLO := Lib.hid hlo
    have HRL := Lib.hid (show st.rows.length ≤ 60 by have := HM.out; omega)
    have hbs := below1 w2 (.cells #[.slice ra L.length rcap] 48)
    obtain ⟨G3, R3, _, _⟩ := hR.grow hbs
    have HRA := Lib.hid (xrange_any tag (0, 0) topP _ R3.ix HG.out (by have := HRL.out; omega))
    rw [range_all HG.out HLO.out tag] at HRA
    unfold plV topP at HRA
    have HR3 := Lib.hid R3
    have HW1 := Lib.hid hR.ch
    clear hR hI hS hlo hrl hLl hsub HF hbs R3
    go_wp2_with fail
    refine HRA.out.mono ?_
    rintro e w4 ⟨av, rfl, hav, hb4⟩
    obtain ⟨G4, R4, _, _⟩ := HR3.out.grow hb4
    obtain ⟨G5, R5, _, hn5⟩ := R4.grow (below1 w4 (.cells #[.int .i64 0, .int .i64 0] 29))
    have HG9 := Lib.hid (hn5 w4.heap.size (Nat.le_refl _) (by simp))
    have HXc := Lib.hid (show ∀ w', Ch (· = w4.heap.size) (w4.alloc (.cells #[.int .i64 0, .int .i64 0] 29)) w' → Ix G5 w' x st from fun w' hc => ((R5.ix.ch hc (fun k e => by rw [e]; exact HG9.out)).mono (fun _ e => .inl e)))
    have HAV := Lib.hid (show PRow _ _ _ _ from hav.below (below1 w4 (.cells #[.int .i64 0, .int .i64 0] 29)))
    have HAB := Lib.hid (fun g e => (hav.own (g := g) e).2)
    have HB9 := Lib.hid (Blk.new w4 #[.int .i64 0, .int .i64 0] 29)
    have HWB := Lib.hid (HB1.out.trans (R5.ch.mono HB1.out.size))
    have HW4 := Lib.hid (show w.heap.size ≤ w4.heap.size from by have h1 := HB1.out.size; have h2 := R4.ch.size; omega)
    obtain ⟨aa, acap, hae, _, _⟩ := hav.slice
    subst hae
    have HLEN := Lib.hid (show (allX st tag).length ≤ 60 from Nat.le_trans (all_len st tag) HRL.out)
    clear hav hb4 R4 R5 hn5 HR3 HRA
    go_wp2_with fail
    obtain ⟨w5, hw5⟩ : ∃ w5, w5 = w4.alloc (.cells #[.int .i64 0, .int .i64 0] 29) := ⟨_, rfl⟩
    rw [← hw5] at HXc HAV HB9 HWB ⊢
    clear hw5
    go_loopw [45] (fun v wi => WnIn w5 w4.heap.size (allX st tag) v wi) (fun i _ => (allX st tag).length - (intOf i).toNat)
    case atStart => exact ⟨0, rfl, Nat.zero_le _, HB9.out, Ch.refl _ _⟩
    case round =>
      obtain ⟨j, rfl, hj, hB, hC⟩ := hrel
      have HBk := Lib.hid hB
      have HC := Lib.hid hC
      have HX := Lib.hid (HXc.out _ hC)
      have HAr := Lib.hid (show PRow _ _ _ _ from HAV.out.ch hC (fun g e e2 => by have := HAB.out g e; omega))
      have hnx := walk_next HG.out tag hj
      obtain ⟨q1, q2⟩ := hB.cells
      have l9 := hB.lt
      clear hB hC
      by_cases hlt : j < (allX st tag).length
      · have ht : decide ((j : Int) < ((allX st tag).length : Int)) = true := by simpa using hlt
        obtain ⟨s, hs⟩ : ∃ s, (allX st tag)[j]? = some s := ⟨_, List.getElem?_eq_getElem hlt⟩
        obtain ⟨g2, off2, cap2, e2, hat2⟩ := HAr.out.at plO_len hs
        cases e2
        obtain ⟨r, hr, hrs⟩ := all_at hs
        rw [hr] at hnx
        have HAT := Lib.hid (atN_at hr)
        have hgr := HG.out.ge r (mem_count.1 (List.mem_of_getElem? hr)).1
        have hlr := HLO.out r (mem_count.1 (List.mem_of_getElem? hr)).1
        subst hrs
        obtain ⟨⟨pa, pb⟩, ⟨⟨ia, ib⟩, tags, data⟩⟩ := r
        simp only at hs hat2 hgr hlr
        have HPW := Lib.hid (show wrap64 (pb + 1) = pb + 1 from IntWalk.wrap64_in _ (by omega))
        have d0 : wr.cell? ⟨g2, off2 + j * 2, none⟩ = some (.int .i64 pa) := by simpa using hat2 0 _ rfl
        have d1 : wr.cell? ⟨g2, off2 + j * 2 + 1, none⟩ = some (.int .i64 pb) := by simpa [Nat.add_assoc] using hat2 1 _ rfl
        have md := (cell_spot d0).2
        simp only at md
        obtain ⟨⟨ta, tb⟩, hta⟩ : ∃ q, atN (allX st tag) j = q := ⟨_, rfl⟩
        rw [hta] at q1 hnx
        have HTA := Lib.hid hta
        have hbs := below1 wr (.cells #[.int .i64 pa, .int .i64 pb] 29)
        have HBs := Lib.hid (Blk.new wr #[.int .i64 pa, .int .i64 pb] 29)
        have HNX := xnext_any tag (ta, tb) _ (HX.out.below' hbs) HG.out (by have := HRL.out; omega)
        rw [hnx] at HNX
        unfold plV at HNX
        have HNX := Lib.hid HNX
        have HW3 := Lib.hid (show wrap64 ((j : Int) + 1) = (j : Int) + 1 from IntWalk.wrap64_in _ (by have := HLEN.out; omega))
        have HLT3 := Lib.hid hlt
        have HbS := Lib.hid hbs
        clear hat2 hs hbs hr hnx hgr hlr hta hlt
        go_wp2_with fail
        refine HNX.out.mono ?_
        rintro e w7 ⟨tv, rfl, htv, hb7⟩
        obtain ⟨tta, tcap, hte, _, _⟩ := htv.slice
        subst hte
        unfold recV plV
        simp only [Option.getD_some, Option.isSome_some]
        have hb9 := below2 w7 (.cells #[.int .i64 ia, .int .i64 ib, .slice tta tags.length tcap, .string data] 34) (.cells #[.int .i64 pa, .int .i64 pb] 29)
        have hb79 := HbS.out.trans ((hb7.trans (hb9.mono hb7.size)).mono HbS.out.size)
        have HC7 := Lib.hid (HC.out.call (HbS.out.trans (hb7.mono HbS.out.size)))
        have HBk7 := Lib.hid (HBk.out.below (HbS.out.trans (hb7.mono HbS.out.size)))
        obtain ⟨z1, z2⟩ := (HBs.out.below hb7).cells
        have lz := (HBs.out.below hb7).lt
        obtain ⟨z3, z4⟩ := (HBk.out.below (HbS.out.trans (hb7.mono HbS.out.size))).cells
        have lk := (HBk.out.below (HbS.out.trans (hb7.mono HbS.out.size))).lt
        have hne : ¬ (wr.heap.size = w4.heap.size) := by omega
        have heq : (pa == pa && (pb == pb)) = true := by simp
        have hpw := HPW.out
        clear hb7 hb79 htv hb9 HNX d0 d1 q1 q2 l9 md
        go_wp2_with fail
        have hBf := (((HBk7.out.set 0 (.int .i64 pa)).set 1 (.int .i64 (pb + 1))).alloc (.cells #[.int .i64 ia, .int .i64 ib, .slice tta tags.length tcap, .string data] 34)).alloc (.cells #[.int .i64 pa, .int .i64 pb] 29)
        have hCf := (((HC7.out.set (p := ⟨w4.heap.size, 0, none⟩) (.inr rfl) (.int .i64 pa)).set (p := ⟨w4.heap.size, 1, none⟩) (.inr rfl) (.int .i64 (pb + 1))).alloc (.cells #[.int .i64 ia, .int .i64 ib, .slice tta tags.length tcap, .string data] 34)).alloc (.cells #[.int .i64 pa, .int .i64 pb] 29)
        go_roundw
        case rel => exact ⟨j + 1, (by first | rfl | (rw [HW3.out]; rfl)), HLT3.out, (by rw [HAT.out]; exact hBf), hCf⟩
        case measure => first | exact rt_meas HW3.out HLT3.out | exact rt_meas2 HLT3.out
      · have ht : decide ((j : Int) < ((allX st tag).length : Int)) = false := by simpa using hlt
        have ht2 : decide ((allX st tag).length ≤ j) = true := by simp; omega
        have ht3 : decide (j < (allX st tag).length) = false := by simpa using hlt
        have hjn : j = (allX st tag).length := by omega
        have hnone : (countX st tag)[j]? = none := List.getElem?_eq_none (by rw [← all_n]; omega)
        rw [hnone] at hnx
        obtain ⟨⟨ta, tb⟩, hta⟩ : ∃ q, atN (allX st tag) j = q := ⟨_, rfl⟩
        rw [hta] at q1 hnx
        have HNX := xnext_any tag (ta, tb) _ HX.out HG.out (by have := HRL.out; omega)
        rw [hnx] at HNX
        unfold plV at HNX
        have HNX := Lib.hid HNX
        clear hnone hnx hta hjn
        go_wp2_with fail
        refine HNX.out.mono ?_
        rintro e w7 ⟨tv, rfl, htv, hb7⟩
        obtain ⟨tta, tcap, hte, _, _⟩ := htv.slice
        subst hte
        unfold recV plV rw0 rc0
        simp only [Option.getD_none, Option.isSome_none]
        have HC7 := Lib.hid (HC.out.call hb7)
        have HBk7 := Lib.hid (HBk.out.below hb7)
        obtain ⟨z3, z4⟩ := HBk7.out.cells
        have lk := HBk7.out.lt
        have hwl : wrap64 (((allX st tag).length : Int) - 1) = ((allX st tag).length : Int) - 1 := IntWalk.wrap64_in _ (by have := HLEN.out; omega)
        clear hb7 htv HNX q1 q2 l9 HX HAr
        go_wp2_with fail
        have hBs := (((HBk7.out.set 0 (.int .i64 1152921504606846976)).set 1 (.int .i64 0)).alloc (.cells #[.int .i64 0, .int .i64 0, .slice tta 0 tcap, .string ⟨#[]⟩] 34)).alloc (.cells #[.int .i64 0, .int .i64 0] 29)
        have hCs := (((HC7.out.set (p := ⟨w4.heap.size, 0, none⟩) (.inr rfl) (.int .i64 1152921504606846976)).set (p := ⟨w4.heap.size, 1, none⟩) (.inr rfl) (.int .i64 0)).alloc (.cells #[.int .i64 0, .int .i64 0, .slice tta 0 tcap, .string ⟨#[]⟩] 34)).alloc (.cells #[.int .i64 0, .int .i64 0] 29)
        have HBst := Lib.hid (show Blk _ w4.heap.size #[.int .i64 1152921504606846976, .int .i64 0] 29 from hBs)
        have HCst := Lib.hid hCs
        have HTOP := Lib.hid (show atP (allX st tag) (allX st tag).length = topP by unfold atP; rw [List.getD_eq_getElem?_getD, List.getElem?_eq_none (Nat.le_refl _)]; rfl)
        have HWL := Lib.hid hwl
        clear hBs hCs HBk7 HC7 HBk HC z3 z4 lk hwl hlt ht ht2 ht3
        go_loopw [18] (fun v wi => WpIn w5 w4.heap.size (allX st tag) v wi) (fun i _ => (intOf i + 1).toNat)
        case atStart => exact ⟨(allX st tag).length, _, rfl, (by first | rfl | exact HWL.out), Nat.le_refl _, (by rw [HTOP.out]; exact HBst.out), HCst.out⟩
        case round =>
          obtain ⟨m, i, rfl, hi, hm, hB, hC⟩ := hrel
          have HBk := Lib.hid hB
          have HC := Lib.hid hC
          have HX := Lib.hid (HXc.out _ hC)
          have HAr := Lib.hid (show PRow _ _ _ _ from HAV.out.ch hC (fun g e e2 => by have := HAB.out g e; omega))
          have hpv := walk_prev HG.out HLO.out tag hm
          obtain ⟨q1, q2⟩ := hB.cells
          have l9 := hB.lt
          clear hB hC HBst HCst
          by_cases hlt : 0 < m
          · obtain ⟨k, rfl⟩ : ∃ k, m = k + 1 := ⟨m - 1, by omega⟩
            obtain rfl : i = (k : Int) := by omega
            have hk1 : (((k + 1 : Nat) : Int) - 1) = (k : Int) := by omega
            rw [hk1] at hpv
            clear hi
            have hkn : ((k : Int)).toNat = k := by omega
            have ht : decide (0 ≤ (k : Int)) = true := by simp
            obtain ⟨s, hs⟩ : ∃ s, (allX st tag)[k]? = some s := ⟨_, List.getElem?_eq_getElem (by omega)⟩
            obtain ⟨g2, off2, cap2, e2, hat2⟩ := HAr.out.at plO_len hs
            cases e2
            obtain ⟨r, hr, hrs⟩ := all_at hs
            have hpv2 : prevX st tag (atP (allX st tag) (k + 1)) = some r := by rw [hpv]; unfold at?; rw [if_neg (by omega), hkn, hr]
            have HAT := Lib.hid (atP_at hr)
            subst hrs
            obtain ⟨⟨pa, pb⟩, ⟨⟨ia, ib⟩, tags, data⟩⟩ := r
            simp only at hs hat2
            have d0 : wr.cell? ⟨g2, off2 + k * 2, none⟩ = some (.int .i64 pa) := by simpa using hat2 0 _ rfl
            have d1 : wr.cell? ⟨g2, off2 + k * 2 + 1, none⟩ = some (.int .i64 pb) := by simpa [Nat.add_assoc] using hat2 1 _ rfl
            have md := (cell_spot d0).2
            simp only at md
            obtain ⟨⟨xa, xb⟩, hta⟩ : ∃ q, atP (allX st tag) (k + 1) = q := ⟨_, rfl⟩
            rw [hta] at q1 hpv2
            have HNX := xprev_any tag (xa, xb) _ HX.out HG.out (by have := HRL.out; omega)
            rw [hpv2] at HNX
            unfold plV at HNX
            have HNX := Lib.hid HNX
            have HW3 := Lib.hid (show wrap64 ((k : Int) - 1) = (k : Int) - 1 from IntWalk.wrap64_in _ (by have := HLEN.out; omega))
            have HKL := Lib.hid (show k < (allX st tag).length by omega)
            clear hat2 hs hr hpv hpv2 hta hlt hkn hk1
            go_wp2_with fail
            refine HNX.out.mono ?_
            rintro e w8 ⟨tv8, rfl, htv8, hb8⟩
            obtain ⟨tta8, tcap8, hte8, _, _⟩ := htv8.slice
            subst hte8
            unfold recV plV
            simp only [Option.getD_some, Option.isSome_some]
            have hb89 := below2 w8 (.cells #[.int .i64 ia, .int .i64 ib, .slice tta8 tags.length tcap8, .string data] 34) (.cells #[.int .i64 pa, .int .i64 pb] 29)
            have hb810 := hb8.trans (hb89.mono hb8.size)
            have HC10 := Lib.hid (HC.out.call hb810)
            have HBk10 := Lib.hid (HBk.out.below hb810)
            have hPr := Blk.new (w8.alloc (.cells #[.int .i64 ia, .int .i64 ib, .slice tta8 tags.length tcap8, .string data] 34)) #[.int .i64 pa, .int .i64 pb] 29
            rw [show (w8.alloc (.cells #[.int .i64 ia, .int .i64 ib, .slice tta8 tags.length tcap8, .string data] 34)).heap.size = w8.heap.size + 1 by simp] at hPr
            have HPr := Lib.hid hPr
            obtain ⟨w10, hw10⟩ : ∃ w10, w10 = (w8.alloc (.cells #[.int .i64 ia, .int .i64 ib, .slice tta8 tags.length tcap8, .string data] 34)).alloc (.cells #[.int .i64 pa, .int .i64 pb] 29) := ⟨_, rfl⟩
            rw [← hw10] at HC10 HBk10 HPr hb810
            have D0 := Lib.hid (fun y : Later w10 => ((hb810.trans (y.h.mono hb810.size)).cell (p := ⟨g2, off2 + k * 2, none⟩) md).trans d0)
            have D1 := Lib.hid (fun y : Later w10 => ((hb810.trans (y.h.mono hb810.size)).cell (p := ⟨g2, off2 + k * 2 + 1, none⟩) md).trans d1)
            have heq : (pa == pa && (pb == pb)) = true := by simp
            have hkb : decide ((k : Int) < ((allX st tag).length : Int)) = true := by simpa using HKL.out
            clear hb8 htv8 hb89 hb810 hPr HNX d0 d1 q1 q2 l9 md
            go_wp2_with fail
            rw [← hw10]
            clear hw10
            have d0 := D0.out
            have d1 := D1.out
            obtain ⟨z1, z2⟩ := HPr.out.laterCells
            refine wp_region_later (by kernel_rfl) (by kernel_rfl) ?_
            repeat (go_big_quiet_step (fail))
            refine wpQuiet_nil ?_
            rintro _ ⟨y, rfl⟩
            have HC11 := Lib.hid (HC10.out.call y.h)
            have HBk11 := Lib.hid (HBk10.out.below y.h)
            have HPr11 := Lib.hid (HPr.out.below y.h)
            obtain ⟨w11, hw11⟩ : ∃ w11, w11 = y.w := ⟨_, rfl⟩
            rw [← hw11] at HC11 HBk11 HPr11 ⊢
            clear hw11 d0 d1 z1 z2 D0 D1 HC10 HBk10 HPr
            obtain ⟨z1, z2⟩ := HPr11.out.cells
            obtain ⟨z3, z4⟩ := HBk11.out.cells
            have lp := HPr11.out.lt
            have lk := HBk11.out.lt
            go_wp2_with fail
            have hBf := (HBk11.out.set 0 (.int .i64 pa)).set 1 (.int .i64 pb)
            have hCf := (HC11.out.set (p := ⟨w4.heap.size, 0, none⟩) (.inr rfl) (.int .i64 pa)).set (p := ⟨w4.heap.size, 1, none⟩) (.inr rfl) (.int .i64 pb)
            go_roundw
            case rel =>
              repeat apply Exists.intro
              exact ⟨⟨k, wrap64 ((k : Int) - 1), rfl, HW3.out, Nat.le_of_lt HKL.out, (by rw [HAT.out]; exact hBf), hCf⟩, rfl⟩
            case measure => first | exact wp_meas HW3.out | exact wp_meas2
          · obtain rfl : m = 0 := by omega
            obtain rfl : i = -1 := by omega
            have hpv2 : prevX st tag (atP (allX st tag) 0) = none := by rw [hpv]; rfl
            obtain ⟨⟨xa, xb⟩, hta⟩ : ∃ q, atP (allX st tag) 0 = q := ⟨_, rfl⟩
            rw [hta] at q1 hpv2
            have HNX := xprev_any tag (xa, xb) _ HX.out HG.out (by have := HRL.out; omega)
            rw [hpv2] at HNX
            unfold plV at HNX
            have HNX := Lib.hid HNX
            clear hpv hpv2 hta hi hlt
            go_wp2_with fail
            refine HNX.out.mono ?_
            rintro e w8 ⟨tv8, rfl, htv8, hb8⟩
            obtain ⟨tta8, tcap8, hte8, _, _⟩ := htv8.slice
            subst hte8
            unfold recV plV rw0 rc0
            simp only [Option.getD_none, Option.isSome_none]
            have hb89 := below2 w8 (.cells #[.int .i64 0, .int .i64 0, .slice tta8 0 tcap8, .string ⟨#[]⟩] 34) (.cells #[.int .i64 0, .int .i64 0] 29)
            have HC10 := Lib.hid (HC.out.call (hb8.trans (hb89.mono hb8.size)))
            clear hb8 htv8 hb89 HNX q1 q2 l9
            go_wp2_with fail
            refine (alive_any _).mono ?_
            rintro e w11 ⟨rfl, hb11⟩
            have HC11 := Lib.hid (HC10.out.call hb11)
            have HLN := xlen_any tag w11 (HXc.out _ HC11.out) HG.out (by have := HRL.out; omega)
            rw [← all_n] at HLN
            have HLN := Lib.hid HLN
            have heq : (((allX st tag).length : Int) == ((allX st tag).length : Int)) = true := by simp
            clear hb11
            go_wp2_with fail
            refine HLN.out.mono ?_
            rintro e w12 ⟨rfl, hb12⟩
            have HC12 := Lib.hid (HC11.out.call hb12)
            clear hb12 HLN
            go_wp2_with fail
            go_ret
            exact ⟨rfl, Ch.below ((Ch.of_below (fun _ => False) HWB.out).step HC12.out (fun j hj e => by have := HW4.out; omega))⟩
theorem walks_row {v : Value} (l : List (It × Value)) (tag : Int) (w : World) (ro : VRow (fun k => k < w.heap.size) 12 itO w v l) (ok : ∀ p ∈ l, VRow (fun k => k < w.heap.size) 1 intO w p.2 p.1.r.tags ∧ p.1.r.tags.length ≤ 140737488351232 ∧ p.1.r.data.size ≤ 140737488351232) (hl : l.length * 120 ≤ 140737488351232) (_ : (Lit.int .i64 tag).wf = true) :
    Calls Try.prog 6 #[v, .int .i64 tag] w fun e w' => e = .returned (.bool true) ∧ Below w.heap.size w w' :=
  walks_main l tag w (its_of ro ok) (by omega) (fun p hp => (ok p hp).2.1)
end Go.Proofs.Ytpcocmdhdnfjcaa
