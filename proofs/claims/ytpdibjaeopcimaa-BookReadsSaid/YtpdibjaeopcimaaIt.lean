/- index's laws: Has of the reference; what Next tells at a place. -/
import Derived.Test.YtpdibjaeopcimaaIn
set_option linter.unusedVariables false
set_option linter.unusedSimpArgs false
namespace Go.Proofs.Ytpdibjaeopcimaa
open Go.RowKit

/-- Has' loop. -/
def HaIn (w : World) (tags : List Int) (t : Int) (v : Value) (wi : World) : Prop := ∃ k : Nat, v = .int .i64 (k : Int) ∧ k ≤ tags.length ∧ (∀ j u, j < k → tags[j]? = some u → u ≠ t) ∧ Below w.heap.size w wi
set_option maxRecDepth 100000 in
set_option maxHeartbeats 4000000 in
theorem rhas_any {S : Nat → Prop} (r : Rc) (tv : Value) (t : Int) (w : World) (h : VRow S 1 intO w tv r.tags) (hm : r.tags.length ≤ 140737488351232) :
    Calls Try.prog 27 #[recV r tv, .int .i64 t] w fun e w' => e = .returned (.bool (hasR r t)) ∧ Below w.heap.size w w' := by
  obtain ⟨⟨ia, ib⟩, tags, data⟩ := r
  simp only at h hm
  have hb0 := below1 w (.cells #[.int .i64 ia, .int .i64 ib, tv, .string data] 26)
  have B0 := Blk.new w #[.int .i64 ia, .int .i64 ib, tv, .string data] 26
  obtain ⟨w0, hw0⟩ : ∃ w0, w0 = w.alloc (.cells #[.int .i64 ia, .int .i64 ib, tv, .string data] 26) := ⟨_, rfl⟩
  rw [← hw0] at hb0 B0
  have HV := Lib.hid (h.below hb0)
  obtain ⟨ta, tcap, rfl, _, _⟩ := h.slice
  have HB := Lib.hid hb0
  have HB0 := Lib.hid B0
  obtain ⟨R, hR⟩ : ∃ R, hasR ⟨(ia, ib), tags, data⟩ t = R := ⟨_, rfl⟩
  rw [hR]
  have HR := Lib.hid hR
  have HM2 := Lib.hid hm
  unfold recV
  simp only
  clear h hb0 B0 hR hm
  by_cases h0 : (t == 0) = true
  · have HX := Lib.hid (show R = true by rw [← HR.out]; simp only [hasR, h0]; rfl)
    go_enter Try.func27, Try.ntmps27
    go_wp2_with fail
    rw [← hw0]
    go_ret
    exact ⟨by rw [HX.out]; rfl, HB.out⟩
  · simp only [Bool.not_eq_true] at h0
    have HE := Lib.hid (show R = tags.contains t by rw [← HR.out]; simp only [hasR, h0]; rfl)
    go_enter Try.func27, Try.ntmps27
    go_wp2_with fail
    rw [← hw0]
    clear hw0
    go_loopw [5] (fun v wi => HaIn w0 tags t v wi) (fun i _ => tags.length - (intOf i).toNat)
    case atStart => exact ⟨0, rfl, Nat.zero_le _, fun j u hj _ => absurd hj (Nat.not_lt_zero _), Below.refl _ _⟩
    case round =>
      obtain ⟨k, rfl, hk, hno, hbr⟩ := hrel
      have HNO := Lib.hid hno
      have HBR := Lib.hid hbr
      obtain ⟨z1, z2⟩ := (HB0.out.below hbr).cells
      have HV3 := Lib.hid (HV.out.below hbr)
      have HBG := Lib.hid (HB.out.trans (hbr.mono HB.out.size))
      clear hno hbr HV
      by_cases hlt : k < tags.length
      · have ht : decide ((k : Int) < (tags.length : Int)) = true := by simpa using hlt
        obtain ⟨u, hu⟩ : ∃ u, tags[k]? = some u := ⟨_, List.getElem?_eq_getElem hlt⟩
        obtain ⟨g, off, cap, e, hat⟩ := HV3.out.at hu
        cases e
        have c0 : wr.cell? ⟨g, off + k, none⟩ = some (.int .i64 u) := by simpa using hat 0 _ rfl
        have HU := Lib.hid hu
        have HW2 := Lib.hid (show wrap64 ((k : Int) + 1) = (k : Int) + 1 from IntWalk.wrap64_in _ (by have := HM2.out; omega))
        have HLT := Lib.hid hlt
        clear hu hat
        by_cases h1 : (u == t) = true
        · have HX := Lib.hid (show R = true by
            rw [HE.out, List.contains_iff_exists_mem_beq]
            exact ⟨u, List.mem_of_getElem? HU.out, by rw [beq_iff_eq] at h1 ⊢; exact h1.symm⟩)
          go_wp2_with fail
          go_ret
          exact ⟨by rw [HX.out]; rfl, HBG.out⟩
        · simp only [Bool.not_eq_true] at h1
          have HX := Lib.hid (show ∀ j q, j < k + 1 → tags[j]? = some q → q ≠ t from fun j q hj hq => by
            by_cases hjk : j = k
            · subst hjk
              rw [HU.out] at hq
              cases hq
              simpa using h1
            · exact HNO.out j q (by omega) hq)
          go_wp2_with fail
          go_roundw
          case rel => exact ⟨k + 1, (by first | rfl | (rw [HW2.out]; rfl)), HLT.out, HX.out, HBR.out⟩
          case measure => first | exact rt_meas HW2.out HLT.out | exact rt_meas2 HLT.out
      · have ht : decide ((k : Int) < (tags.length : Int)) = false := by simpa using hlt
        have ht2 : decide (tags.length ≤ k) = true := by simp; omega
        have ht3 : decide (k < tags.length) = false := by simpa using hlt
        have HX := Lib.hid (show R = false by
          rw [HE.out, ← Bool.not_eq_true, List.contains_iff_exists_mem_beq]
          rintro ⟨p, hp, e⟩
          obtain ⟨j, hj, rfl⟩ := List.getElem_of_mem hp
          rw [beq_iff_eq] at e
          exact HNO.out j tags[j] (by omega) (List.getElem?_eq_getElem hj) e.symm)
        go_wp2_with fail
        go_ret
        exact ⟨by rw [HX.out]; rfl, HBG.out⟩

theorem firstN_at {rl : List Rw} (h : rowsUp rl) {j : Nat} {r : Rw} (hj : rl[j]? = some r) : firstN rl r.pl = j := by
  have hl := (List.getElem?_eq_some_iff.1 hj).1
  refine (found_first h (a := r.pl) (p := fun i => match rl[i]? with | some q => !lessP q.pl r.pl | none => false) (k := j) (fun i q hq => by simp only [hq]) ⟨Nat.le_of_lt hl, fun _ => ?_, fun h0 => ?_⟩).symm
  · simp only [hj, less_irr]
    rfl
  · obtain ⟨q, hq⟩ : ∃ q, rl[j - 1]? = some q := ⟨_, List.getElem?_eq_getElem (by omega)⟩
    simp only [hq]
    have h1 := List.pairwise_iff_getElem.1 h (j - 1) j (by omega) hl (by omega)
    have e1 : rl[j - 1] = q := by
      have := List.getElem?_eq_getElem (show j - 1 < rl.length by omega)
      rw [hq] at this
      exact (Option.some.inj this).symm
    have e2 : rl[j] = r := by
      have := List.getElem?_eq_getElem hl
      rw [hj] at this
      exact (Option.some.inj this).symm
    rw [e1, e2] at h1
    rw [h1]
    rfl
theorem next_at {st : XSt} (hg : GoodX st) {t : Int} {j : Nat} {r : Rw} (hj : (countX st t)[j]? = some r) : nextX st t r.pl = some r := by
  unfold nextX at?
  rw [firstN_at (good_count hg t) hj, if_neg (by omega), show ((j : Int)).toNat = j by omega, hj]
theorem all_at {st : XSt} {t : Int} {j : Nat} {s : Pl} (h : (allX st t)[j]? = some s) : ∃ r, (countX st t)[j]? = some r ∧ r.pl = s := by
  unfold allX at h
  rw [List.getElem?_map] at h
  exact Option.map_eq_some_iff.1 h
theorem all_zero {st : XSt} {t : Int} {r : Rw} (h : r ∈ countX st t) : r.pl ∈ allX st 0 := by
  obtain ⟨h1, h2, h3⟩ := mem_count.1 h
  refine List.mem_map.2 ⟨r, mem_count.2 ⟨h1, rfl, ?_⟩, rfl⟩
  unfold bothX at *
  simp only [Bool.and_eq_true] at *
  exact ⟨h3.2, h3.2⟩
end Go.Proofs.Ytpdibjaeopcimaa
