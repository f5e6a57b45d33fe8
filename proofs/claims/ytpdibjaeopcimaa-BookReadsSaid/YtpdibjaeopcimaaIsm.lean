/- index's laws: Same of the reference; SameSeqs. -/
import Derived.Test.YtpdibjaeopcimaaIt
set_option linter.unusedVariables false
set_option linter.unusedSimpArgs false
namespace Go.Proofs.Ytpdibjaeopcimaa
open Go.RowKit

theorem toList_ne {x y : ByteArray} (h : x ≠ y) : (x.toList == y.toList) = false := by
  have : x.toList ≠ y.toList := by
    rw [ByteArray.toList_eq, ByteArray.toList_eq]
    exact fun e => h (Go.WideShapes.bytes_inj e)
  simpa using this
def sameR (a b : Rc) : Bool := (a.id.1 == b.id.1 && a.id.2 == b.id.2) && (decide (a.data = b.data) && decide (a.tags = b.tags))
theorem sameR_iff {a b : Rc} : sameR a b = true ↔ a = b := by
  unfold sameR
  simp only [Bool.and_eq_true, beq_iff_eq, decide_eq_true_eq]
  constructor
  · rintro ⟨⟨h1, h2⟩, h3, h4⟩
    obtain ⟨⟨a1, a2⟩, a3, a4⟩ := a
    obtain ⟨⟨b1, b2⟩, b3, b4⟩ := b
    simp only at *
    subst h1 h2 h3 h4
    rfl
  · rintro rfl
    exact ⟨⟨rfl, rfl⟩, rfl, rfl⟩
/-- Same's loop. -/
def SmIn (w : World) (a b : List Int) (v : Value) (wi : World) : Prop := ∃ k : Nat, v = .int .i64 (k : Int) ∧ k ≤ a.length ∧ (∀ j x, j < k → a[j]? = some x → b[j]? = some x) ∧ Below w.heap.size w wi
theorem tags_eq {a b : List Int} (hl : a.length = b.length) (h : ∀ j x, j < a.length → a[j]? = some x → b[j]? = some x) : a = b := by
  refine List.ext_getElem hl fun j h1 h2 => ?_
  have := h j _ h1 (List.getElem?_eq_getElem h1)
  rw [List.getElem?_eq_getElem h2] at this
  exact (Option.some.inj this).symm
attribute [local go_sem high] eqId eqSeq
set_option maxRecDepth 100000 in
set_option maxHeartbeats 8000000 in
theorem rsame_any {S T : Nat → Prop} (a b : Rc) (ta tb : Value) (w : World) (h1 : VRow S 1 intO w ta a.tags) (h2 : VRow T 1 intO w tb b.tags) (hm : a.tags.length ≤ 140737488351232) :
    Calls Try.prog 21 #[recV a ta, recV b tb] w fun e w' => e = .returned (.bool (sameR a b)) ∧ Below w.heap.size w w' := by
  obtain ⟨⟨a1, a2⟩, at', ad⟩ := a
  obtain ⟨⟨b1, b2⟩, bt, bd⟩ := b
  simp only at h1 h2 hm
  have hb0 := below2 w (.cells #[.int .i64 a1, .int .i64 a2, ta, .string ad] 26) (.cells #[.int .i64 b1, .int .i64 b2, tb, .string bd] 26)
  have B1 := (Blk.new w #[.int .i64 a1, .int .i64 a2, ta, .string ad] 26).alloc (.cells #[.int .i64 b1, .int .i64 b2, tb, .string bd] 26)
  have B2 := (Blk.new (w.alloc (.cells #[.int .i64 a1, .int .i64 a2, ta, .string ad] 26)) #[.int .i64 b1, .int .i64 b2, tb, .string bd] 26)
  rw [show (w.alloc (.cells #[.int .i64 a1, .int .i64 a2, ta, .string ad] 26)).heap.size = w.heap.size + 1 by simp] at B2
  obtain ⟨w0, hw0⟩ : ∃ w0, w0 = (w.alloc (.cells #[.int .i64 a1, .int .i64 a2, ta, .string ad] 26)).alloc (.cells #[.int .i64 b1, .int .i64 b2, tb, .string bd] 26) := ⟨_, rfl⟩
  rw [← hw0] at hb0 B1 B2
  have HVA := Lib.hid (h1.below hb0)
  have HVB := Lib.hid (h2.below hb0)
  obtain ⟨aa, acap, rfl, _, _⟩ := h1.slice
  obtain ⟨ba, bcap, rfl, _, _⟩ := h2.slice
  have HB := Lib.hid hb0
  have HB1 := Lib.hid B1
  have HB2 := Lib.hid B2
  have HM := Lib.hid hm
  obtain ⟨q1, q2⟩ := B1.cells
  obtain ⟨q3, q4⟩ := B2.cells
  have l1 := B1.lt
  have l2 := B2.lt
  obtain ⟨R, hR⟩ : ∃ R, sameR ⟨(a1, a2), at', ad⟩ ⟨(b1, b2), bt, bd⟩ = R := ⟨_, rfl⟩
  rw [hR]
  have HR := Lib.hid hR
  unfold sameR at hR
  simp only at hR
  unfold recV
  simp only
  clear h1 h2 hm hb0 B1 B2
  by_cases e1 : (a1 == b1 && (a2 == b2)) = true
  · by_cases e2 : ad = bd
    · subst e2
      by_cases e3 : ((at'.length : Int) == (bt.length : Int)) = true
      · have HE := Lib.hid (show R = decide (at' = bt) by rw [← hR, e1]; simp)
        have HL := Lib.hid (show at'.length = bt.length by have h := e3; rw [beq_iff_eq] at h; omega)
        clear hR
        go_enter Try.func21, Try.ntmps21
        go_wp2_with fail
        rw [← hw0]
        clear hw0 q1 q2 q3 q4 l1 l2
        go_loopw [5] (fun v wi => SmIn w0 at' bt v wi) (fun i _ => at'.length - (intOf i).toNat)
        case atStart => exact ⟨0, rfl, Nat.zero_le _, fun j u hj _ => absurd hj (Nat.not_lt_zero _), Below.refl _ _⟩
        case round =>
          obtain ⟨k, rfl, hk, hno, hbr⟩ := hrel
          have HNO := Lib.hid hno
          have HBR := Lib.hid hbr
          obtain ⟨z1, z2⟩ := (HB1.out.below hbr).cells
          have HVA3 := Lib.hid (HVA.out.below hbr)
          have HVB3 := Lib.hid (HVB.out.below hbr)
          have HBG := Lib.hid (HB.out.trans (hbr.mono HB.out.size))
          have hll := HL.out
          clear hno hbr HVA HVB
          by_cases hlt : k < at'.length
          · have ht : decide ((k : Int) < (at'.length : Int)) = true := by simpa using hlt
            have hlt2 : k < bt.length := by omega
            obtain ⟨u, hu⟩ : ∃ u, at'[k]? = some u := ⟨_, List.getElem?_eq_getElem hlt⟩
            obtain ⟨u2, hu2⟩ : ∃ u, bt[k]? = some u := ⟨_, List.getElem?_eq_getElem hlt2⟩
            obtain ⟨g, off, cap, e, hat⟩ := HVA3.out.at hu
            obtain ⟨g2, off2, cap2, e4, hat2⟩ := HVB3.out.at hu2
            cases e
            cases e4
            have c0 : wr.cell? ⟨g, off + k, none⟩ = some (.int .i64 u) := by simpa using hat 0 _ rfl
            have c1 : wr.cell? ⟨g2, off2 + k, none⟩ = some (.int .i64 u2) := by simpa using hat2 0 _ rfl
            have d0 := fun y : Later wr => (y.h.cell (cell_spot c0).2).trans c0
            have d1 := fun y : Later wr => (y.h.cell (cell_spot c1).2).trans c1
            have HU := Lib.hid hu
            have HU2 := Lib.hid hu2
            have HW2 := Lib.hid (show wrap64 ((k : Int) + 1) = (k : Int) + 1 from IntWalk.wrap64_in _ (by have := HM.out; omega))
            have HLT := Lib.hid hlt
            have hx1 := (HB1.out.below HBR.out).laterCells
            obtain ⟨x1, x2⟩ := hx1
            obtain ⟨x3, x4⟩ := (HB2.out.below HBR.out).laterCells
            clear hu hat hu2 hat2 c0 c1
            by_cases h1 : (u == u2) = true
            · have HX := Lib.hid (show ∀ j x, j < k + 1 → at'[j]? = some x → bt[j]? = some x from fun j q hj hq => by
                by_cases hjk : j = k
                · subst hjk
                  rw [HU.out] at hq
                  cases hq
                  rw [HU2.out]
                  rw [beq_iff_eq] at h1
                  rw [h1]
                · exact HNO.out j q (by omega) hq)
              go_wp2_with fail
              refine wp_region_later (by kernel_rfl) (by kernel_rfl) ?_
              repeat (go_big_quiet_step (fail))
              refine wpQuiet_nil ?_
              rintro _ ⟨y, rfl⟩
              have HBY := Lib.hid (HBR.out.trans (y.h.mono HBR.out.size))
              go_wp2_with fail
              go_roundw
              case rel => exact ⟨k + 1, (by first | rfl | (rw [HW2.out]; rfl)), HLT.out, HX.out, HBY.out⟩
              case measure => first | exact rt_meas HW2.out HLT.out | exact rt_meas2 HLT.out
            · have HX := Lib.hid (show R = false by
                rw [HE.out]
                simp only [decide_eq_false_iff_not]
                intro h
                have h3 := HU.out
                rw [h, HU2.out] at h3
                cases h3
                simp at h1)
              simp only [Bool.not_eq_true] at h1
              go_wp2_with fail
              refine wp_region_later (by kernel_rfl) (by kernel_rfl) ?_
              repeat (go_big_quiet_step (fail))
              refine wpQuiet_nil ?_
              rintro _ ⟨y, rfl⟩
              have HBY := Lib.hid (HBG.out.trans (y.h.mono HBG.out.size))
              go_wp2_with fail
              go_ret
              exact ⟨by rw [HX.out]; rfl, HBY.out⟩
          · have ht : decide ((k : Int) < (at'.length : Int)) = false := by simpa using hlt
            have ht2 : decide (at'.length ≤ k) = true := by simp; omega
            have ht3 : decide (k < at'.length) = false := by simpa using hlt
            have HX := Lib.hid (show R = true by
              rw [HE.out]
              simp only [decide_eq_true_eq]
              exact tags_eq HL.out (fun j x hj hx => HNO.out j x (by omega) hx))
            go_wp2_with fail
            go_ret
            exact ⟨by rw [HX.out]; rfl, HBG.out⟩
      · simp only [Bool.not_eq_true] at e3
        have HX := Lib.hid (show R = false by
          rw [← hR]
          simp only [Bool.and_eq_false_iff, decide_eq_false_iff_not]
          exact .inr (.inr (fun h => by rw [h] at e3; simp at e3)))
        clear hR
        go_enter Try.func21, Try.ntmps21
        go_wp2_with fail
        rw [← hw0]
        go_ret
        exact ⟨by rw [HX.out]; rfl, HB.out⟩
    · have e3 := toList_ne e2
      have HX := Lib.hid (show R = false by
        rw [← hR]
        simp only [Bool.and_eq_false_iff, decide_eq_false_iff_not]
        exact .inr (.inl e2))
      clear hR
      go_enter Try.func21, Try.ntmps21
      go_wp2_with fail
      rw [← hw0]
      go_ret
      exact ⟨by rw [HX.out]; rfl, HB.out⟩
  · simp only [Bool.not_eq_true] at e1
    have HX := Lib.hid (show R = false by rw [← hR, e1]; rfl)
    clear hR
    go_enter Try.func21, Try.ntmps21
    go_wp2_with fail
    rw [← hw0]
    go_ret
    exact ⟨by rw [HX.out]; rfl, HB.out⟩

end Go.Proofs.Ytpdibjaeopcimaa
