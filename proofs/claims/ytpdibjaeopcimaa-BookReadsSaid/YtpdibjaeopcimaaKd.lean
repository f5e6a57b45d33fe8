/- book's laws: Open. -/
import Derived.Test.YtpdibjaeopcimaaKc
set_option linter.unusedVariables false
set_option linter.unusedSimpArgs false
namespace Go.Proofs.Ytpdibjaeopcimaa
open Go.RowKit

/-- Whose a record is. -/
def openD (r : Rc) : Option (Int × List Int) := match r.tags with
  | [] => none
  | t0 :: ts => if rightR r = true ∧ (t0 - 1).tmod 1024 = 0 ∧ (makeD ((t0 - 1).tdiv 1024) r.id (ts.map (· - t0)) r.data).isSome = true then some ((t0 - 1).tdiv 1024, ts.map (· - t0)) else none
def OpenPost (o : Option (Int × List Int)) (w : World) (e : Ending) (w' : World) : Prop :=
  ∃ tv, e = .returned (.tuple #[.int .i64 (o.getD (0, [])).1, tv, .bool o.isSome]) ∧ VRow (fun k => w.heap.size ≤ k) 1 intO w' tv (o.getD (0, [])).2 ∧ Below w.heap.size w w'
theorem open_no (w w' : World) (h : Below w.heap.size w w') : OpenPost none w (.returned (.tuple #[.int .i64 0, .slice none 0 0, .bool false])) w' := ⟨_, rfl, VRow.nil _ _, h⟩
theorem tags_bound : ∀ {l : List Int}, tagsRight l = true → ∀ t ∈ l, 1 ≤ t ∧ t ≤ 1073741824
  | [], _, _, h => by cases h
  | t :: l, h, u, hu => by
    unfold tagsRight at h
    simp only [Bool.and_eq_true, decide_eq_true_eq] at h
    rcases List.mem_cons.1 hu with rfl | hu
    · exact ⟨h.1.1.1, h.1.1.2⟩
    · exact tags_bound h.2 u hu
theorem right_tags {r : Rc} (h : rightR r = true) : (∀ t ∈ r.tags, 1 ≤ t ∧ t ≤ 1073741824) ∧ r.tags.length ≤ 8 := by
  unfold rightR at h
  simp only [Bool.and_eq_true, decide_eq_true_eq] at h
  exact ⟨tags_bound h.2, h.1.1.2⟩
/-- Open's loop. -/
def OpIn (w1 : World) (ts : List Int) (t0 : Int) (v3 v37 : Value) (wi : World) : Prop :=
  ∃ k : Nat, v37 = .int .i64 (k : Int) ∧ k ≤ ts.length ∧ wi.ownsRow w1.heap.size 3 1 v3 k ((ts.take k).map fun t => .int .i64 (t - t0)) ∧ Below w1.heap.size w1 wi
theorem op_take {ts : List Int} {k : Nat} {t t0 : Int} (h : ts[k]? = some t) : (ts.take (k + 1)).map (fun t => Value.int .i64 (t - t0)) = (ts.take k).map (fun t => .int .i64 (t - t0)) ++ [.int .i64 (t - t0)] := by
  rw [List.take_add_one, h]
  simp
theorem len_pos (n : Nat) : (((n : Int) + 1) == 0) = false ∧ decide ((n : Int) + 1 = 0) = false ∧ decide ((0 : Int) < (n : Int) + 1) = true ∧ decide (0 < n + 1) = true :=
  ⟨by rw [beq_eq_false_iff_ne]; omega, decide_eq_false (by omega), decide_eq_true (by omega), decide_eq_true (by omega)⟩
theorem op_bound {t t0 : Int} (h0 : 1 ≤ t0 ∧ t0 ≤ 1073741824) (h : 1 ≤ t ∧ t ≤ 1073741824) : wrap64 (t - t0) = t - t0 := IntWalk.wrap64_in _ (by omega)
theorem op_div {t0 : Int} (h0 : 1 ≤ t0 ∧ t0 ≤ 1073741824) : wrap64 ((t0 - 1).tdiv 1024) = (t0 - 1).tdiv 1024 := by
  rw [Int.tdiv_eq_ediv_of_nonneg (by omega)]
  exact IntWalk.wrap64_in _ (by omega)
theorem op_meas {k n : Nat} (h2 : k < n) : n - (intOf (.int .i64 ((k : Int) + 1))).toNat < n - (intOf (.int .i64 (k : Int))).toNat := by
  simp [intOf]
  omega
set_option maxRecDepth 100000 in
set_option maxHeartbeats 4000000 in
theorem open_any (r : Rc) (tv : Value) (w : World) (hv : VRow (fun k => k < w.heap.size) 1 intO w tv r.tags) (hm : r.tags.length ≤ 140737488351232) :
    Calls Try.prog 22 #[recV r tv] w (OpenPost (openD r) w) := by
  obtain ⟨⟨ia, ib⟩, tags, data⟩ := r
  simp only at hv hm
  have hb0 := below1 w (.cells #[.int .i64 ia, .int .i64 ib, tv, .string data] 26)
  have B0 := Blk.new w #[.int .i64 ia, .int .i64 ib, tv, .string data] 26
  obtain ⟨w0, hw0⟩ : ∃ w0, w0 = w.alloc (.cells #[.int .i64 ia, .int .i64 ib, tv, .string data] 26) := ⟨_, rfl⟩
  rw [← hw0] at hb0 B0
  have HB0 := Lib.hid hb0
  have HK0 := Lib.hid B0
  have HV := Lib.hid (hv.below hb0)
  have HRI := right_any ⟨(ia, ib), tags, data⟩ tv w0 (hv.below hb0) hm
  obtain ⟨rr, hrr⟩ : ∃ b, rightR ⟨(ia, ib), tags, data⟩ = b := ⟨_, rfl⟩
  have HRR := Lib.hid hrr
  rw [hrr] at HRI
  unfold recV at HRI ⊢
  simp only at HRI ⊢
  have HRI := Lib.hid HRI
  clear hb0 B0 hrr hm
  cases rr with
  | false =>
    have e : openD ⟨(ia, ib), tags, data⟩ = none := by
      unfold openD
      cases tags with
      | nil => rfl
      | cons t0 ts => exact if_neg (fun h => by have := h.1; rw [HRR.out] at this; cases this)
    rw [e]
    clear e
    obtain ⟨ta, tcap, rfl, _, _⟩ := hv.slice
    clear hv
    go_enter Try.func22, Try.ntmps22
    go_wp2_with fail
    rw [← hw0]
    clear hw0
    refine HRI.out.mono ?_
    rintro e w1 ⟨rfl, hb1⟩
    have HB1 := Lib.hid (HB0.out.trans (hb1.mono HB0.out.size))
    clear hb1
    go_wp2_with fail
    exact bodyPost_ret (v := .tuple #[.int .i64 0, .slice none 0 0, .bool false]) (by simp [results, Try.results22, go_sem]) rfl (open_no _ _ HB1.out)
  | true =>
    cases tags with
    | nil =>
      obtain ⟨ta, tcap, rfl, _, _⟩ := hv.slice
      clear hv
      rw [List.length_nil] at hw0 HK0 HRI
      have e : openD ⟨(ia, ib), [], data⟩ = none := rfl
      rw [e]
      clear e
      go_enter Try.func22, Try.ntmps22
      go_wp2_with fail
      rw [← hw0]
      clear hw0
      refine HRI.out.mono ?_
      rintro e w1 ⟨rfl, hb1⟩
      have HB1 := Lib.hid (HB0.out.trans (hb1.mono HB0.out.size))
      obtain ⟨q1, q2⟩ := (HK0.out.below hb1).cells
      have l1 := (HK0.out.below hb1).lt
      clear hb1
      go_wp2_with fail
      exact bodyPost_ret (v := .tuple #[.int .i64 0, .slice none 0 0, .bool false]) (by simp [results, Try.results22, go_sem]) rfl (open_no _ _ HB1.out)
    | cons t0 ts =>
      obtain ⟨hbd, hl8⟩ := right_tags HRR.out
      simp only at hbd hl8
      have ht0 := hbd t0 (List.mem_cons_self)
      have HBD := Lib.hid (fun t ht => hbd t (List.mem_cons_of_mem _ ht))
      have HT0 := Lib.hid ht0
      have HL8 := Lib.hid (show ts.length ≤ 7 by simpa using hl8)
      obtain ⟨ta, tcap, e, _, _⟩ := hv.slice
      subst e
      have hv0 := HV.out
      obtain ⟨g, off, cap', e, hat⟩ := hv0.at (i := 0) (x := t0) rfl
      cases e
      have hw64 : wrap64 (t0 - 1) = t0 - 1 := IntWalk.wrap64_in _ (by omega)
      have C0 := Lib.hid (show w0.cell? ⟨g, off, none⟩ = some (.int .i64 t0) by simpa using hat 0 _ rfl)
      clear hv hbd hl8 ht0 hv0 hat
      rw [List.length_cons] at hw0 HK0 HRI
      obtain ⟨hz1, hz2, hz3, hz4⟩ := len_pos ts.length
      by_cases h0 : (t0 - 1).tmod 1024 = 0
      · have hne : ((t0 - 1).tmod 1024 != 0) = false := by simpa using h0
        have HE := Lib.hid (show openD ⟨(ia, ib), t0 :: ts, data⟩ = if (makeD ((t0 - 1).tdiv 1024) (ia, ib) (ts.map (· - t0)) data).isSome = true then some ((t0 - 1).tdiv 1024, ts.map (· - t0)) else none by
          unfold openD
          simp only [HRR.out, h0, true_and])
        have HCUT := Lib.hid (HV.out.drop' (k := 1) (ys := ts) (by simp) rfl)
        have hsl : ∀ W, (Instr.slice 24 (.slice (some ⟨g, off, none⟩) (ts.length + 1) tcap) (some (.int .i64 1)) none none).run Try.prog W = .ok (cutV 1 (.slice (some ⟨g, off, none⟩) (ts.length + 1) tcap) 1) W := fun W => run_slice_from (P := Try.prog) (w := W) (t := 24) Try.underlying24 (sizeInt W) (some ⟨g, off, none⟩) (ts.length + 1) tcap 1 (by omega)
        have hwd := op_div HT0.out
        have HSL := Lib.hid hsl
        clear hsl h0
        go_enter Try.func22, Try.ntmps22
        go_wp2_with fail
        rw [← hw0]
        clear hw0
        refine HRI.out.mono ?_
        rintro e w1 ⟨rfl, hb1⟩
        have HB1 := Lib.hid (HB0.out.trans (hb1.mono HB0.out.size))
        have HK1 := Lib.hid (HK0.out.below hb1)
        have HV1 := Lib.hid (HCUT.out.below hb1)
        have C1 := Lib.hid ((hb1.cell (cell_spot C0.out).2).trans C0.out)
        obtain ⟨q1, q2⟩ := HK1.out.cells
        have l1 := HK1.out.lt
        have c0 := C1.out
        have hsl := HSL.out
        obtain ⟨ca, ccap, hce, _, _⟩ := HV1.out.slice
        rw [List.length_cons] at hce
        rw [hce] at hsl
        have HCE := Lib.hid hce
        clear hb1 hce
        go_wp2_with fail
        rw [hwd]
        clear hwd hw64
        go_loopw [3, 37] (fun v3 v37 wi => OpIn w1 ts t0 v3 v37 wi) (fun _ i _ => ts.length - (intOf i).toNat)
        case atStart => exact ⟨0, rfl, Nat.zero_le _, World.ownsRow_nil _ _ _ _, Below.refl _ _⟩
        case round =>
          obtain ⟨k, rfl, hk, hrow, hbr⟩ := hrel
          have HROW := Lib.hid hrow
          have HBR := Lib.hid hbr
          obtain ⟨a3, cap3, e⟩ := owns_form hrow
          subst e
          obtain ⟨z1, z2⟩ := (HK1.out.below hbr).cells
          have m1 := (HK1.out.below hbr).lt
          have d0 := (hbr.cell (cell_spot C1.out).2).trans C1.out
          clear hrow hbr q1 q2 l1 c0 hsl
          by_cases hlt : k < ts.length
          · have ht : decide ((k : Int) < (ts.length : Int)) = true := by simpa using hlt
            obtain ⟨t, hp⟩ : ∃ t, ts[k]? = some t := ⟨_, List.getElem?_eq_getElem hlt⟩
            obtain ⟨g2, off2, cap2, e, hat⟩ := (HV1.out.below HBR.out).at hp
            rw [List.length_cons, HCE.out] at e
            cases e
            have c2 : wr.cell? ⟨g2, off2 + k, none⟩ = some (.int .i64 t) := by simpa using hat 0 _ rfl
            have hsub := op_bound HT0.out (HBD.out t (List.mem_of_getElem? hp))
            have HP := Lib.hid (op_take (t0 := t0) hp)
            have HW2 := Lib.hid (show wrap64 ((k : Int) + 1) = (k : Int) + 1 from IntWalk.wrap64_in _ (by have := HL8.out; omega))
            have HLT := Lib.hid hlt
            have hmax : k + 1 ≤ maxLen := by have := HL8.out; unfold maxLen; omega
            obtain ⟨i0, hi, hz0, hz1', hz2'⟩ := info_parts infoInt
            clear hp hat hlt
            go_wp2_with (at_builtin; refine wpList_append_own _ rfl (.tmp 41) (.tmp 48) 24 rfl w1.heap.size 3 i0 (.int .i64 0) 1 8 Try.underlying24 hi hz0 hz1' hz2' rfl (by decide) _ _ _ rfl (HROW.out.alloc _) ⟨wr.heap.size, 0, none⟩ 1 1 [.int .i64 (t - t0)] rfl rfl (cell_one_new _ _ _) (by simp [Value.oneCell']) hmax (by have := HL8.out; have := HLT.out; omega) (by have := HBR.out.size; simp; omega) ?_; intro v' w9 hown' hgrow0 _; have hgrow : (wr.alloc (.cells #[.int .i64 (t - t0)] 3)).grownBy w9 (Value.slice a3 k cap3).ownBlock := hgrow0; clear hgrow0; obtain ⟨g', cap', rfl⟩ := ownsRow_succ hown')
            have hc1 : Ch (fun j => w1.heap.size ≤ j) wr w9 := ((Ch.refl _ wr).alloc (.cells #[.int .i64 (t - t0)] 3)).trans ((Ch.of_grown hgrow).mono fun j e => (owns_base HROW.out e.symm).1)
            have hb9 : Below w1.heap.size w1 w9 := Ch.below ((Ch.of_below (fun _ => False) HBR.out).step hc1 (fun j hj e => by omega))
            go_roundw
            case rel => exact ⟨k + 1, (by first | rfl | (rw [HW2.out]; rfl)), HLT.out, by rw [HP.out]; exact hown', hb9⟩
            case measure => first | exact rt_meas HW2.out HLT.out | exact rt_meas2 HLT.out
          · have ht : decide ((k : Int) < (ts.length : Int)) = false := by simpa using hlt
            have ht2 : decide (ts.length ≤ k) = true := by simp; omega
            have ht3 : decide (k < ts.length) = false := by simpa using hlt
            obtain rfl : k = ts.length := by omega
            have hvr : VRow (fun j => w1.heap.size ≤ j) 1 intO wr (.slice a3 ts.length cap3) (ts.map (· - t0)) := by
              have h := HROW.out
              rw [List.take_length] at h
              have e1 : (ts.map (· - t0)).length = ts.length := List.length_map _
              have e2 : (ts.map fun t => Value.int .i64 (t - t0)) = (ts.map (· - t0)).map (.int .i64 ·) := by rw [List.map_map]; rfl
              rw [e2, ← e1] at h
              rw [← e1]
              exact owns_row h
            have HVR := Lib.hid hvr
            obtain ⟨o, ho⟩ : ∃ o, makeD ((t0 - 1).tdiv 1024) (ia, ib) (ts.map (· - t0)) data = o := ⟨_, rfl⟩
            have HMK := make_any ((t0 - 1).tdiv 1024) (ia, ib) (ts.map (· - t0)) _ data wr (hvr.mono fun j hj _ => hj) (by rw [List.length_map]; have := HL8.out; omega)
            rw [ho] at HMK
            unfold plV at HMK
            have HMK := Lib.hid HMK
            have he := HE.out
            rw [ho] at he
            have HE2 := Lib.hid he
            have HBW := Lib.hid (HB1.out.trans (HBR.out.mono HB1.out.size))
            clear hvr ho he
            go_wp2_with fail
            refine HMK.out.mono ?_
            rintro e w9 ⟨tv9, rfl, hv9, hb9⟩
            obtain ⟨a9, cap9, e9, _, _⟩ := hv9.slice
            subst e9
            have HB9 := Lib.hid (HBW.out.trans (hb9.mono HBW.out.size))
            have HVR9 := Lib.hid ((HVR.out.below hb9).mono (S' := fun j => w.heap.size ≤ j) (fun j _ hj => Nat.le_trans HB1.out.size hj))
            clear hv9 hb9
            cases o with
            | none =>
              unfold recV
              simp only [Option.getD_none, Option.isSome_none, Bool.false_eq_true, if_false]
              go_wp2_with fail
              exact bodyPost_ret (v := .tuple #[.int .i64 0, .slice none 0 0, .bool false]) (by simp [results, Try.results22, go_sem]) rfl (by rw [HE2.out, if_neg (by simp)]; exact open_no _ _ (HB9.out.trans ((below1 w9 _).mono HB9.out.size)))
            | some q =>
              unfold recV
              simp only [Option.getD_some, Option.isSome_some, if_true]
              go_wp2_with fail
              refine bodyPost_ret (v := .tuple #[.int .i64 ((t0 - 1).tdiv 1024), .slice a3 ts.length cap3, .bool true]) (by simp [results, Try.results22, go_sem]) rfl ?_
              rw [HE2.out, if_pos (by simp)]
              exact ⟨_, rfl, HVR9.out.below (below1 w9 _), HB9.out.trans ((below1 w9 _).mono HB9.out.size)⟩
      · have e : openD ⟨(ia, ib), t0 :: ts, data⟩ = none := if_neg (fun h => h0 h.2.1)
        rw [e]
        have hne : ((t0 - 1).tmod 1024 != 0) = true := by simpa using h0
        clear e
        go_enter Try.func22, Try.ntmps22
        go_wp2_with fail
        rw [← hw0]
        clear hw0
        refine HRI.out.mono ?_
        rintro e w1 ⟨rfl, hb1⟩
        have HB1 := Lib.hid (HB0.out.trans (hb1.mono HB0.out.size))
        obtain ⟨q1, q2⟩ := (HK0.out.below hb1).cells
        have l1 := (HK0.out.below hb1).lt
        have c0 := (hb1.cell (cell_spot C0.out).2).trans C0.out
        clear hb1
        go_wp2_with fail
        exact bodyPost_ret (v := .tuple #[.int .i64 0, .slice none 0 0, .bool false]) (by simp [results, Try.results22, go_sem]) rfl (open_no _ _ HB1.out)
end Go.Proofs.Ytpdibjaeopcimaa
