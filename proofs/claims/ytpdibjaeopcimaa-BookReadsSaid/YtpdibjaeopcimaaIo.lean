/- index's reference: Less, Right, Has, Same of layer 4. -/
import Derived.Test.YtpdibjaeopcimaaIm
set_option linter.unusedVariables false
set_option linter.unusedSimpArgs false
namespace Go.Proofs.Ytpdibjaeopcimaa
open Go.RowKit

set_option maxRecDepth 100000 in
theorem rless_any (a b : Pl) (w : World) :
    Calls Try.prog 18 #[plV a, plV b] w fun e w' => e = .returned (.bool (lessP a b)) ∧ Below w.heap.size w w' := by
  obtain ⟨a, b1⟩ := a
  obtain ⟨c, d⟩ := b
  unfold plV lessP
  simp only
  by_cases h2 : (a == c) = true
  · have hac : a = c := by simpa using h2
    subst hac
    have hne : (a != a) = false := by simp
    clear h2
    go_enter Try.func18, Try.ntmps18
    go_wp2
    go_ret
    exact ⟨by simp, below2 _ _ _⟩
  · have hne : (a != c) = true := by simpa using h2
    simp only [Bool.not_eq_true] at h2
    rw [h2]
    clear h2
    go_enter Try.func18, Try.ntmps18
    go_wp2
    go_ret
    exact ⟨by simp, below2 _ _ _⟩

theorem prevT_ok {tags : List Int} {i : Nat} {t p : Int} (hp : p = if i = 0 then 0 else tags.getD (i - 1) 0) (hok : ∀ j u, j < i → tags[j]? = some u → okT tags j u = true) (hi : i ≤ tags.length) : okT tags i t = (!decide (t ≤ p) && !decide (1073741824 < t)) := by
  unfold okT
  by_cases h0 : i = 0
  · subst h0
    rw [if_pos rfl] at hp
    subst hp
    simp
    rw [Bool.eq_iff_iff]
    simp
    omega
  · rw [if_neg h0] at hp
    have h1 : (i == 0) = false := by simpa using h0
    rw [h1, ← hp]
    have hl : i - 1 < tags.length := by omega
    obtain ⟨u, hu⟩ : ∃ u, tags[i - 1]? = some u := ⟨_, List.getElem?_eq_getElem hl⟩
    have hpu : p = u := by rw [hp, List.getD_eq_getElem?_getD, hu]; rfl
    have h2 := hok (i - 1) u (by omega) hu
    unfold okT at h2
    simp only [Bool.and_eq_true, decide_eq_true_eq] at h2
    rw [Bool.eq_iff_iff]
    simp
    omega
/-- Right's loop. -/
def RdIn (w : World) (tags : List Int) (v3 v4 : Value) (wi : World) : Prop := ∃ (i : Nat) (p : Int), v3 = .int .i64 p ∧ v4 = .int .i64 (i : Int) ∧ i ≤ tags.length ∧ (p = if i = 0 then 0 else tags.getD (i - 1) 0) ∧ (∀ j t, j < i → tags[j]? = some t → okT tags j t = true) ∧ Below w.heap.size w wi
set_option maxRecDepth 100000 in
set_option maxHeartbeats 8000000 in
theorem rright_any {S : Nat → Prop} (r : Rc) (tv : Value) (w : World) (h : VRow S 1 intO w tv r.tags) (hm : r.tags.length ≤ 140737488351232) :
    Calls Try.prog 28 #[recV r tv] w fun e w' => e = .returned (.bool (rightR r)) ∧ Below w.heap.size w w' := by
  obtain ⟨⟨ia, ib⟩, tags, data⟩ := r
  simp only at h hm
  have hb0 := below1 w (.cells #[.int .i64 ia, .int .i64 ib, tv, .string data] 26)
  have B0 := Blk.new w #[.int .i64 ia, .int .i64 ib, tv, .string data] 26
  obtain ⟨w0, hw0⟩ : ∃ w0, w0 = w.alloc (.cells #[.int .i64 ia, .int .i64 ib, tv, .string data] 26) := ⟨_, rfl⟩
  rw [← hw0] at hb0 B0
  have HV := Lib.hid (h.below hb0)
  obtain ⟨ta, tcap, rfl, _, _⟩ := h.slice
  have HB := Lib.hid hb0
  have HB0 := Lib.hid B0
  have HRT := Lib.hid (tagsRight_iff tags)
  unfold recV
  simp only
  obtain ⟨R, hR⟩ : ∃ R, rightR ⟨(ia, ib), tags, data⟩ = R := ⟨_, rfl⟩
  rw [hR]
  have HR := Lib.hid hR
  have HM2 := Lib.hid hm
  clear h hb0 B0 hR hm
  by_cases h1 : decide (ia < 0) = true
  · have HX := Lib.hid (show R = false by rw [← HR.out]; simp at h1; simp [rightR, mayI]; omega)
    go_enter Try.func28, Try.ntmps28
    go_wp2_with fail
    go_ret
    exact ⟨by rw [HX.out]; rfl, Ch.below (by (repeat (first | with_reducible assumption | with_reducible exact Ch.refl _ _ | with_reducible refine Ch.drew ?_ | with_reducible refine Ch.alloc ?_ _ | (with_reducible refine Ch.set' ?_ ?_; focus (first | (right; rfl; done) | (left; simp; done) | (left; simp; omega) | (left; omega) | (right; simp; done) | (right; simp; omega))))))⟩
  · simp only [Bool.not_eq_true] at h1
    by_cases h2 : decide (1099511627776 < ia) = true
    · have HX := Lib.hid (show R = false by rw [← HR.out]; simp at h2; simp [rightR, mayI]; omega)
      go_enter Try.func28, Try.ntmps28
      go_wp2_with fail
      go_ret
      exact ⟨by rw [HX.out]; rfl, Ch.below (by (repeat (first | with_reducible assumption | with_reducible exact Ch.refl _ _ | with_reducible refine Ch.drew ?_ | with_reducible refine Ch.alloc ?_ _ | (with_reducible refine Ch.set' ?_ ?_; focus (first | (right; rfl; done) | (left; simp; done) | (left; simp; omega) | (left; omega) | (right; simp; done) | (right; simp; omega))))))⟩
    · simp only [Bool.not_eq_true] at h2
      by_cases h3 : decide (ib < 0) = true
      · have HX := Lib.hid (show R = false by rw [← HR.out]; simp at h3; simp [rightR, mayI]; omega)
        go_enter Try.func28, Try.ntmps28
        go_wp2_with fail
        go_ret
        exact ⟨by rw [HX.out]; rfl, Ch.below (by (repeat (first | with_reducible assumption | with_reducible exact Ch.refl _ _ | with_reducible refine Ch.drew ?_ | with_reducible refine Ch.alloc ?_ _ | (with_reducible refine Ch.set' ?_ ?_; focus (first | (right; rfl; done) | (left; simp; done) | (left; simp; omega) | (left; omega) | (right; simp; done) | (right; simp; omega))))))⟩
      · simp only [Bool.not_eq_true] at h3
        by_cases h4 : decide (1099511627776 < ib) = true
        · have HX := Lib.hid (show R = false by rw [← HR.out]; simp at h4; simp [rightR, mayI]; omega)
          go_enter Try.func28, Try.ntmps28
          go_wp2_with fail
          go_ret
          exact ⟨by rw [HX.out]; rfl, Ch.below (by (repeat (first | with_reducible assumption | with_reducible exact Ch.refl _ _ | with_reducible refine Ch.drew ?_ | with_reducible refine Ch.alloc ?_ _ | (with_reducible refine Ch.set' ?_ ?_; focus (first | (right; rfl; done) | (left; simp; done) | (left; simp; omega) | (left; omega) | (right; simp; done) | (right; simp; omega))))))⟩
        · simp only [Bool.not_eq_true] at h4
          have HE := Lib.hid (show R = (decide (tags.length ≤ 8) && decide (data.size ≤ 1024) && tagsRight tags) by
            rw [← HR.out]
            have e1 : mayI ia = true := by simp at h1 h2; simp [mayI]; omega
            have e2 : mayI ib = true := by simp at h3 h4; simp [mayI]; omega
            simp only [rightR, e1, e2, Bool.true_and])
          go_enter Try.func28, Try.ntmps28
          go_wp2_with fail
          rw [← hw0]
          clear hw0
          go_loopw [3, 4] (fun v3 v4 wi => RdIn w0 tags v3 v4 wi) (fun _ i _ => tags.length - (intOf i).toNat)
          case atStart => exact ⟨0, 0, rfl, rfl, Nat.zero_le _, rfl, fun j t hj _ => absurd hj (Nat.not_lt_zero _), Below.refl _ _⟩
          case round =>
            obtain ⟨i, p, rfl, rfl, hi, hp, hok, hbr⟩ := hrel
            have HOK := Lib.hid hok
            have HBR := Lib.hid hbr
            have HPP := Lib.hid hp
            obtain ⟨z1, z2⟩ := (HB0.out.below hbr).cells
            have HV3 := Lib.hid (HV.out.below hbr)
            have HBG := Lib.hid (HB.out.trans (hbr.mono HB.out.size))
            clear hok hbr hp HV
            by_cases hlt : i < tags.length
            · have ht : decide ((i : Int) < (tags.length : Int)) = true := by simpa using hlt
              obtain ⟨t, htt⟩ : ∃ t, tags[i]? = some t := ⟨_, List.getElem?_eq_getElem hlt⟩
              obtain ⟨g, off, cap, e, hat⟩ := HV3.out.at htt
              cases e
              have c0 : wr.cell? ⟨g, off + i, none⟩ = some (.int .i64 t) := by simpa using hat 0 _ rfl
              have HTT := Lib.hid htt
              have HPO := Lib.hid (prevT_ok (t := t) HPP.out HOK.out hi)
              have HNO := Lib.hid (show okT tags i t = false → R = false from fun h5 => by
                cases hq : tagsRight tags with
                | false => rw [HE.out, hq]; simp
                | true =>
                  have h6 := HRT.out.1 hq i t HTT.out
                  rw [h5] at h6
                  cases h6)
              have HW2 := Lib.hid (show wrap64 ((i : Int) + 1) = (i : Int) + 1 from IntWalk.wrap64_in _ (by have := HM2.out; omega))
              have HLT := Lib.hid hlt
              have HNX := Lib.hid (show okT tags i t = true → ∀ j u, j < i + 1 → tags[j]? = some u → okT tags j u = true from fun h5 j u hj hu => by
                by_cases hji : j = i
                · subst hji
                  rw [HTT.out] at hu
                  cases hu
                  exact h5
                · exact HOK.out j u (by omega) hu)
              have HPN := Lib.hid (show t = if i + 1 = 0 then 0 else tags.getD (i + 1 - 1) 0 by rw [if_neg (by omega), Nat.add_sub_cancel, List.getD_eq_getElem?_getD, HTT.out]; rfl)
              clear htt hat
              by_cases h5 : decide (t ≤ p) = true
              · have HX := Lib.hid (HNO.out (by rw [HPO.out, h5]; rfl))
                go_wp2_with fail
                go_ret
                exact ⟨by rw [HX.out]; rfl, HBG.out⟩
              · simp only [Bool.not_eq_true] at h5
                by_cases h6 : decide (1073741824 < t) = true
                · have HX := Lib.hid (HNO.out (by rw [HPO.out, h6]; simp))
                  go_wp2_with fail
                  go_ret
                  exact ⟨by rw [HX.out]; rfl, HBG.out⟩
                · simp only [Bool.not_eq_true] at h6
                  have HX := Lib.hid (HNX.out (by rw [HPO.out, h5, h6]; rfl))
                  go_wp2_with fail
                  go_roundw
                  case rel => exact ⟨i + 1, t, rfl, (by first | rfl | (rw [HW2.out]; rfl)), HLT.out, HPN.out, HX.out, HBR.out⟩
                  case measure => first | exact rt_meas HW2.out HLT.out | exact rt_meas2 HLT.out
            · have ht : decide ((i : Int) < (tags.length : Int)) = false := by simpa using hlt
              have ht2 : decide (tags.length ≤ i) = true := by simp; omega
              have ht3 : decide (i < tags.length) = false := by simpa using hlt
              have HRR := Lib.hid (show tagsRight tags = true by
                rw [HRT.out]
                intro j t hj
                exact HOK.out j t (by have := (List.getElem?_eq_some_iff.1 hj).1; omega) hj)
              by_cases h7 : decide ((tags.length : Int) ≤ 8) = true
              · have H7 := Lib.hid (show decide (tags.length ≤ 8) = true by simp at h7 ⊢; omega)
                by_cases h8 : decide ((data.size : Int) ≤ 1024) = true
                · have H8 := Lib.hid (show decide (data.size ≤ 1024) = true by simp at h8 ⊢; omega)
                  go_wp2_with fail
                  go_ret
                  exact ⟨by rw [HE.out, HRR.out, H7.out, H8.out]; rfl, HBG.out⟩
                · simp only [Bool.not_eq_true] at h8
                  have H8 := Lib.hid (show decide (data.size ≤ 1024) = false by simp at h8 ⊢; omega)
                  go_wp2_with fail
                  go_ret
                  exact ⟨by rw [HE.out, H8.out]; simp, HBG.out⟩
              · simp only [Bool.not_eq_true] at h7
                have H7 := Lib.hid (show decide (tags.length ≤ 8) = false by simp at h7 ⊢; omega)
                go_wp2_with fail
                go_ret
                exact ⟨by rw [HE.out, H7.out]; simp, HBG.out⟩
end Go.Proofs.Ytpdibjaeopcimaa
