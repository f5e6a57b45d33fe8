/- book's laws: the reference's Equal; own, of one item. -/
import Derived.Test.YtpdibjaeopcimaaIsm
import Derived.Test.YtpdibjaeopcimaaKk
set_option linter.unusedVariables false
set_option linter.unusedSimpArgs false
namespace Go.Proofs.Ytpdibjaeopcimaa
open Go.RowKit

set_option maxRecDepth 100000 in
set_option maxHeartbeats 4000000 in
theorem requal_any {S T : Nat → Prop} (a b : List Int) (va vb : Value) (w : World) (h1 : VRow S 1 intO w va a) (h2 : VRow T 1 intO w vb b) (hm : a.length ≤ 140737488351232) :
    Calls Try.prog 24 #[va, vb] w fun e w' => e = .returned (.bool (decide (a = b))) ∧ Below w.heap.size w w' := by
  have HA := Lib.hid h1
  have HB := Lib.hid h2
  have HM := Lib.hid hm
  obtain ⟨aa, acap, rfl, _, _⟩ := h1.slice
  obtain ⟨ba, bcap, rfl, _, _⟩ := h2.slice
  obtain ⟨R, hR⟩ : ∃ R, decide (a = b) = R := ⟨_, rfl⟩
  have HR := Lib.hid hR
  rw [hR]
  clear h1 h2 hm hR
  by_cases hl : a.length = b.length
  · have HL := Lib.hid hl
    have hne : ((a.length : Int) != (b.length : Int)) = false := by simp [hl]
    clear hl
    go_enter Try.func24, Try.ntmps24
    go_wp2_with fail
    go_loopw [5] (fun v wi => SmIn w a b v wi) (fun i _ => a.length - (intOf i).toNat)
    case atStart => exact ⟨0, rfl, Nat.zero_le _, fun j x hj _ => absurd hj (Nat.not_lt_zero _), Below.refl _ _⟩
    case round =>
      obtain ⟨k, rfl, hk, hsm, hbr⟩ := hrel
      have HSM := Lib.hid hsm
      have HBR := Lib.hid hbr
      by_cases hlt : k < a.length
      · have ht : decide ((k : Int) < (a.length : Int)) = true := by simpa using hlt
        obtain ⟨x, hx⟩ : ∃ x, a[k]? = some x := ⟨_, List.getElem?_eq_getElem hlt⟩
        obtain ⟨y, hy⟩ : ∃ y, b[k]? = some y := ⟨_, List.getElem?_eq_getElem (by have := HL.out; omega)⟩
        obtain ⟨g, off, cap', e, hat⟩ := (HA.out.below hbr).at hx
        cases e
        obtain ⟨g2, off2, cap2, e, hat2⟩ := (HB.out.below hbr).at hy
        cases e
        have c0 : wr.cell? ⟨g, off + k, none⟩ = some (.int .i64 x) := by simpa using hat 0 _ rfl
        have c1 : wr.cell? ⟨g2, off2 + k, none⟩ = some (.int .i64 y) := by simpa using hat2 0 _ rfl
        have d0 := fun y : Later wr => (y.h.cell (cell_spot c0).2).trans c0
        have d1 := fun y : Later wr => (y.h.cell (cell_spot c1).2).trans c1
        have HW2 := Lib.hid (show wrap64 ((k : Int) + 1) = (k : Int) + 1 from IntWalk.wrap64_in _ (by have := HM.out; omega))
        have HLT := Lib.hid hlt
        have hkb : k < b.length := by have := HL.out; omega
        have HXY := Lib.hid (And.intro hx hy)
        clear hsm hbr hx hy hat hat2 c0 c1 hlt
        by_cases hxy : x = y
        · have HQ := Lib.hid hxy
          have hq : (x != y) = false := by simp [hxy]
          clear hxy
          go_wp2_with fail
          refine wp_region_later (by kernel_rfl) (by kernel_rfl) ?_
          repeat (go_big_quiet_step (fail))
          refine wpQuiet_nil ?_
          rintro _ ⟨z, rfl⟩
          have HZ := Lib.hid (HBR.out.trans (z.h.mono HBR.out.size))
          clear d0 d1
          go_wp2_with fail
          go_roundw
          case rel =>
            refine ⟨k + 1, (by first | rfl | (rw [HW2.out]; rfl)), HLT.out, fun j u hj hu => ?_, HZ.out⟩
            by_cases hjk : j = k
            · subst hjk
              have h1 := HXY.out.1
              rw [hu] at h1
              cases h1
              rw [HXY.out.2, HQ.out]
            · exact HSM.out j u (by omega) hu
          case measure => first | exact rt_meas HW2.out HLT.out | exact rt_meas2 HLT.out
        · have HQ := Lib.hid hxy
          have hq : (x != y) = true := by simp [hxy]
          clear hxy
          go_wp2_with fail
          refine wp_region_later (by kernel_rfl) (by kernel_rfl) ?_
          repeat (go_big_quiet_step (fail))
          refine wpQuiet_nil ?_
          rintro _ ⟨z, rfl⟩
          have HZ := Lib.hid (HBR.out.trans (z.h.mono HBR.out.size))
          have HF := Lib.hid (show R = false by
            rw [← HR.out]
            refine decide_eq_false fun e => ?_
            have h1 := HXY.out.1
            rw [e, HXY.out.2] at h1
            cases h1
            exact HQ.out rfl)
          clear d0 d1
          go_wp2_with fail
          go_ret
          exact ⟨by rw [HF.out]; rfl, HZ.out⟩
      · have ht : decide ((k : Int) < (a.length : Int)) = false := by simpa using hlt
        have ht2 : decide (a.length ≤ k) = true := by simp; omega
        have ht3 : decide (k < a.length) = false := by simpa using hlt
        have HT := Lib.hid (show R = true by
          rw [← HR.out]
          refine decide_eq_true (tags_eq HL.out fun j u hj hu => hsm j u (by omega) hu))
        clear hsm hbr
        go_wp2_with fail
        go_ret
        exact ⟨by rw [HT.out]; rfl, HBR.out⟩
  · have hne : ((a.length : Int) != (b.length : Int)) = true := by simp; omega
    have HF := Lib.hid (show R = false by
      rw [← HR.out]
      exact decide_eq_false fun e => hl (by rw [e]))
    clear hl
    go_enter Try.func24, Try.ntmps24
    go_wp2_with fail
    go_ret
    exact ⟨by rw [HF.out]; rfl, Below.refl _ _⟩
end Go.Proofs.Ytpdibjaeopcimaa
