/- index: record.Right. -/
import Derived.Test.YtpdibjaeopcimaaIx
import Derived.Test.YtpdibjaeopcimaaIc
set_option linter.unusedVariables false
set_option linter.unusedSimpArgs false
namespace Go.Proofs.Ytpdibjaeopcimaa
open Go.RowKit

def okT (l : List Int) (i : Nat) (t : Int) : Bool := decide (1 ≤ t) && decide (t ≤ 1073741824) && (i == 0 || decide (l.getD (i - 1) 0 < t))
theorem tagsRight_iff : ∀ l : List Int, tagsRight l = true ↔ ∀ i t, l[i]? = some t → okT l i t = true
  | [] => by simp [tagsRight]
  | [t] => by
    constructor
    · intro h i x hx
      match i, hx with
      | 0, hx =>
        simp at hx
        subst hx
        simpa [tagsRight, okT] using h
      | i + 1, hx => simp at hx
    · intro h
      have := h 0 t rfl
      simpa [tagsRight, okT] using this
  | t :: u :: l => by
    have ih := tagsRight_iff (u :: l)
    unfold tagsRight
    simp only [Bool.and_eq_true]
    rw [ih]
    constructor
    · rintro ⟨⟨⟨h1, h2⟩, h3⟩, h4⟩ i x hx
      match i, hx with
      | 0, hx =>
        simp at hx
        subst hx
        simp only [okT, h1, h2]
        rfl
      | 1, hx =>
        have h5 := h4 0 x (by simpa using hx)
        simp at hx
        subst hx
        simp only [okT, Bool.and_eq_true] at h5 ⊢
        refine ⟨h5.1, ?_⟩
        simpa using h3
      | i + 2, hx =>
        have h5 := h4 (i + 1) x (by simpa using hx)
        simp only [okT, Bool.and_eq_true] at h5 ⊢
        exact ⟨h5.1, by simpa using h5.2⟩
    · intro h
      have h0 := h 0 t rfl
      have h1 := h 1 u rfl
      simp only [okT, Bool.and_eq_true] at h0 h1
      refine ⟨⟨⟨h0.1.1, h0.1.2⟩, by simpa using h1.2⟩, fun i x hx => ?_⟩
      match i, hx with
      | 0, hx =>
        simp at hx
        subst hx
        simp only [okT, h1.1.1, h1.1.2]
        rfl
      | i + 1, hx =>
        have h5 := h (i + 2) x (by simpa using hx)
        simp only [okT, Bool.and_eq_true] at h5 ⊢
        exact ⟨h5.1, by simpa using h5.2⟩

set_option maxRecDepth 100000 in
theorem may_any (n : Int) (w : World) : Calls Try.prog 50 #[.int .i64 n] w fun e w' => e = .returned (.bool (mayI n)) ∧ Below w.heap.size w w' := by
  unfold mayI
  by_cases h : decide (0 ≤ n) = true
  · rw [h]
    go_enter Try.func50, Try.ntmps50
    go_wp2_with fail
    go_ret
    exact ⟨by simp, Ch.below (by (repeat (first | with_reducible assumption | with_reducible exact Ch.refl _ _ | with_reducible refine Ch.drew ?_ | with_reducible refine Ch.alloc ?_ _ | (with_reducible refine Ch.set' ?_ ?_; focus (first | (right; rfl; done) | (left; simp; done) | (left; simp; omega) | (left; omega) | (right; simp; done) | (right; simp; omega))))))⟩
  · simp only [Bool.not_eq_true] at h
    rw [h]
    go_enter Try.func50, Try.ntmps50
    go_wp2_with fail
    go_ret
    exact ⟨rfl, Ch.below (by (repeat (first | with_reducible assumption | with_reducible exact Ch.refl _ _ | with_reducible refine Ch.drew ?_ | with_reducible refine Ch.alloc ?_ _ | (with_reducible refine Ch.set' ?_ ?_; focus (first | (right; rfl; done) | (left; simp; done) | (left; simp; omega) | (left; omega) | (right; simp; done) | (right; simp; omega))))))⟩

theorem rt_meas {i n : Nat} (h : wrap64 ((i : Int) + 1) = (i : Int) + 1) (h2 : i < n) : n - (intOf (.int .i64 (wrap64 ((i : Int) + 1)))).toNat < n - (intOf (.int .i64 (i : Int))).toNat := by
  rw [h]
  simp only [intOf]
  omega
theorem rt_meas2 {i n : Nat} (h2 : i < n) : n - (intOf (.int .i64 ((i : Int) + 1))).toNat < n - (intOf (.int .i64 (i : Int))).toNat := by
  simp only [intOf]
  omega
/-- Right's loop. -/
def RtIn (w : World) (tags : List Int) (v : Value) (wi : World) : Prop := ∃ i : Nat, v = .int .i64 (i : Int) ∧ i ≤ tags.length ∧ (∀ j t, j < i → tags[j]? = some t → okT tags j t = true) ∧ Below w.heap.size w wi
set_option maxRecDepth 100000 in
set_option maxHeartbeats 8000000 in
theorem right_any {S : Nat → Prop} (r : Rc) (tv : Value) (w : World) (h : VRow S 1 intO w tv r.tags) (hm : r.tags.length ≤ 140737488351232) :
    Calls Try.prog 32 #[recV r tv] w fun e w' => e = .returned (.bool (rightR r)) ∧ Below w.heap.size w w' := by
  obtain ⟨⟨ia, ib⟩, tags, data⟩ := r
  simp only at h hm
  have hb0 := below1 w (.cells #[.int .i64 ia, .int .i64 ib, tv, .string data] 26)
  have B0 := Blk.new w #[.int .i64 ia, .int .i64 ib, tv, .string data] 26
  obtain ⟨w0, hw0⟩ : ∃ w0, w0 = w.alloc (.cells #[.int .i64 ia, .int .i64 ib, tv, .string data] 26) := ⟨_, rfl⟩
  rw [← hw0] at hb0 B0
  have HV := Lib.hid (h.below hb0)
  obtain ⟨ta, tcap, rfl, _, _⟩ := h.slice
  have HB := Lib.hid hb0
  have HB0 := Lib.hid B0
  obtain ⟨q1, q2⟩ := B0.cells
  have HM := Lib.hid (fun n w' => may_any n w')
  have HRT := Lib.hid (tagsRight_iff tags)
  unfold recV
  simp only
  obtain ⟨R, hR⟩ : ∃ R, rightR ⟨(ia, ib), tags, data⟩ = R := ⟨_, rfl⟩
  rw [hR]
  have HR := Lib.hid hR
  have HMa := Lib.hid (HM.out ia)
  have HMb := Lib.hid (HM.out ib)
  obtain ⟨d1, hd1⟩ : ∃ d, mayI ia = d := ⟨_, rfl⟩
  obtain ⟨d2, hd2⟩ : ∃ d, mayI ib = d := ⟨_, rfl⟩
  rw [hd1] at HMa
  rw [hd2] at HMb
  have HD1 := Lib.hid hd1
  have HD2 := Lib.hid hd2
  have HM2 := Lib.hid hm
  clear h hb0 B0 HM hd1 hd2 hm hR
  cases d1 with
  | false =>
    go_enter Try.func32, Try.ntmps32
    go_wp2_with fail
    rw [← hw0]
    clear hw0
    refine (HMa.out w0).mono ?_
    rintro e w1 ⟨rfl, hb1⟩
    go_wp2_with fail
    go_ret
    exact ⟨by rw [← HR.out]; simp [rightR, HD1.out], HB.out.trans (hb1.mono HB.out.size)⟩
  | true =>
    go_enter Try.func32, Try.ntmps32
    go_wp2_with fail
    rw [← hw0]
    clear hw0
    refine (HMa.out w0).mono ?_
    rintro e w1 ⟨rfl, hb1⟩
    have HB1 := Lib.hid hb1
    obtain ⟨z1, z2⟩ := (HB0.out.below hb1).cells
    clear q1 q2 hb1
    go_wp2_with fail
    refine (HMb.out w1).mono ?_
    rintro e w2 ⟨rfl, hb2⟩
    have HB2 := Lib.hid (HB1.out.trans (hb2.mono HB1.out.size))
    obtain ⟨y1, y2⟩ := (HB0.out.below HB2.out).cells
    have HV2 := Lib.hid (HV.out.below HB2.out)
    have HBF := Lib.hid (HB.out.trans (HB2.out.mono HB.out.size))
    clear z1 z2 hb2 HB1
    cases d2 with
    | false =>
      go_wp2_with fail
      go_ret
      exact ⟨by rw [← HR.out]; simp [rightR, HD2.out], HBF.out⟩
    | true =>
      by_cases h3 : decide (8 < tags.length) = true
      · have h3b : decide (8 < (tags.length : Int)) = true := by simp at h3 ⊢; omega
        have H3 := Lib.hid (show decide (tags.length ≤ 8) = false by simp at h3 ⊢; omega)
        go_wp2_with fail
        go_ret
        exact ⟨by rw [← HR.out]; simp only [rightR, H3.out]; simp, HBF.out⟩
      · simp only [Bool.not_eq_true] at h3
        have h3b : decide (8 < (tags.length : Int)) = false := by simp at h3 ⊢; omega
        have H3 := Lib.hid (show decide (tags.length ≤ 8) = true by simp at h3 ⊢; omega)
        by_cases h4 : decide (1024 < data.size) = true
        · have h4b : decide (1024 < (data.size : Int)) = true := by simp at h4 ⊢; omega
          have H4 := Lib.hid (show decide (data.size ≤ 1024) = false by simp at h4 ⊢; omega)
          go_wp2_with fail
          go_ret
          exact ⟨by rw [← HR.out]; simp only [rightR, H4.out]; simp, HBF.out⟩
        · simp only [Bool.not_eq_true] at h4
          have h4b : decide (1024 < (data.size : Int)) = false := by simp at h4 ⊢; omega
          have H4 := Lib.hid (show decide (data.size ≤ 1024) = true by simp at h4 ⊢; omega)
          have HE := Lib.hid (show tagsRight tags = R by rw [← HR.out]; simp only [rightR, H3.out, H4.out, HD1.out, HD2.out, Bool.true_and])
          go_wp2_with fail
          go_loopw [32] (fun v wi => RtIn w2 tags v wi) (fun i _ => tags.length - (intOf i).toNat)
          case atStart => exact ⟨0, rfl, Nat.zero_le _, fun j t hj _ => absurd hj (Nat.not_lt_zero _), Below.refl _ _⟩
          case round =>
            obtain ⟨i, rfl, hi, hok, hbr⟩ := hrel
            have HOK := Lib.hid hok
            have HBR := Lib.hid hbr
            obtain ⟨z1, z2⟩ := (HB0.out.below (HB2.out.trans (hbr.mono HB2.out.size))).cells
            have HV3 := Lib.hid (HV2.out.below hbr)
            clear hok hbr y1 y2 HV2 HV
            by_cases hlt : i < tags.length
            · have ht : decide ((i : Int) < (tags.length : Int)) = true := by simpa using hlt
              obtain ⟨t, htt⟩ : ∃ t, tags[i]? = some t := ⟨_, List.getElem?_eq_getElem hlt⟩
              obtain ⟨g, off, cap, e, hat⟩ := HV3.out.at htt
              cases e
              have c0 : wr.cell? ⟨g, off + i, none⟩ = some (.int .i64 t) := by simpa using hat 0 _ rfl
              have HTT := Lib.hid htt
              have HNO := Lib.hid (show okT tags i t = false → R = false from fun h5 => by
                cases hRR : R with
                | false => rfl
                | true =>
                  have h6 := HRT.out.1 (HE.out.trans hRR) i t HTT.out
                  rw [h5] at h6
                  cases h6)
              have HBG := Lib.hid (HBF.out.trans (HBR.out.mono HBF.out.size))
              have HW2 := Lib.hid (show wrap64 ((i : Int) + 1) = (i : Int) + 1 from IntWalk.wrap64_in _ (by have := HM2.out; omega))
              have HLT := Lib.hid hlt
              have HNX := Lib.hid (show okT tags i t = true → ∀ j u, j < i + 1 → tags[j]? = some u → okT tags j u = true from fun h5 j u hj hu => by
                by_cases hji : j = i
                · subst hji
                  rw [HTT.out] at hu
                  cases hu
                  exact h5
                · exact HOK.out j u (by omega) hu)
              clear htt
              by_cases h5 : decide (t < 1) = true
              · have HX := Lib.hid (HNO.out (by simp at h5; simp [okT]; omega))
                clear hat
                go_wp2_with fail
                go_ret
                exact ⟨by rw [HX.out]; rfl, HBG.out⟩
              · simp only [Bool.not_eq_true] at h5
                by_cases h6 : decide (1073741824 < t) = true
                · have HX := Lib.hid (HNO.out (by simp at h6; simp [okT]; omega))
                  clear hat
                  go_wp2_with fail
                  go_ret
                  exact ⟨by rw [HX.out]; rfl, HBG.out⟩
                · simp only [Bool.not_eq_true] at h6
                  by_cases h0 : i = 0
                  · have hi0 : decide (0 < (i : Int)) = false := by simp; omega
                    have HX := Lib.hid (HNX.out (by simp at h5 h6; simp [okT, h0]; omega))
                    have hi1 : decide (0 < i) = false := by simp; omega
                    have hi2 : ¬ (0 < i) := by omega
                    clear hat h0
                    go_wp2_with fail
                    go_roundw
                    case rel => exact ⟨i + 1, (by first | rfl | (rw [HW2.out]; rfl)), HLT.out, HX.out, HBR.out⟩
                    case measure => first | exact rt_meas HW2.out HLT.out | exact rt_meas2 HLT.out
                  · obtain ⟨k, hk⟩ : ∃ k, i = k + 1 := ⟨i - 1, by omega⟩
                    have hi0 : decide (0 < (i : Int)) = true := by simp; omega
                    have hw : wrap64 ((i : Int) - 1) = (k : Int) := by rw [IntWalk.wrap64_in _ (by have := HM2.out; omega)]; omega
                    obtain ⟨p, hp⟩ : ∃ p, tags[k]? = some p := ⟨_, List.getElem?_eq_getElem (by omega)⟩
                    obtain ⟨g', off', cap', e', hat'⟩ := HV3.out.at hp
                    injection e' with e1 e2 e3
                    injection e1 with e1
                    injection e1 with e4 e5 e6
                    subst e4 e5
                    have c1 : wr.cell? ⟨g, off + k, none⟩ = some (.int .i64 p) := by simpa using hat' 0 _ rfl
                    have htk : decide ((k : Int) < (tags.length : Int)) = true := by simp; omega
                    have hkl : k < tags.length := by omega
                    have HPP := Lib.hid (show tags.getD (i - 1) 0 = p by rw [hk, List.getD_eq_getElem?_getD]; simp [hp])
                    clear hat hat' hp e2 e3 hk
                    by_cases h7 : decide (t ≤ p) = true
                    · have HX := Lib.hid (HNO.out (by unfold okT; rw [HPP.out]; simp at h7 ⊢; omega))
                      go_wp2_with fail
                      go_ret
                      exact ⟨by rw [HX.out]; rfl, HBG.out⟩
                    · simp only [Bool.not_eq_true] at h7
                      have HX := Lib.hid (HNX.out (by unfold okT; rw [HPP.out]; simp at h5 h6 h7 ⊢; omega))
                      go_wp2_with fail
                      go_roundw
                      case rel => exact ⟨i + 1, (by first | rfl | (rw [HW2.out]; rfl)), HLT.out, HX.out, HBR.out⟩
                      case measure => first | exact rt_meas HW2.out HLT.out | exact rt_meas2 HLT.out
            · have ht : decide ((i : Int) < (tags.length : Int)) = false := by simpa using hlt
              have ht2 : decide (tags.length ≤ i) = true := by simp; omega
              have ht3 : decide (i < tags.length) = false := by simpa using hlt
              have HRR := Lib.hid (show R = true by
                rw [← HE.out, HRT.out]
                intro j t hj
                exact HOK.out j t (by have := (List.getElem?_eq_some_iff.1 hj).1; omega) hj)
              go_wp2_with fail
              go_ret
              exact ⟨by rw [HRR.out]; rfl, HBF.out.trans (HBR.out.mono HBF.out.size)⟩
end Go.Proofs.Ytpdibjaeopcimaa
