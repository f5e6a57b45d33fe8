/- book's reference: Open. -/
import Derived.Test.YtpdibjaeopcimaaKn
set_option linter.unusedVariables false
set_option linter.unusedSimpArgs false
namespace Go.Proofs.Ytpdibjaeopcimaa
open Go.RowKit

/-- The tags that the reference tries at a book. -/
def refTags (r : Rc) (b : Int) : List Int := ((r.tags.drop 1).take 8).map fun t => wrap64 (wrap64 (t - 1) - 1024 * b)
theorem open_find {r : Rc} {b : Int} {ts : List Int} (h : openD r = some (b, ts)) : 0 ≤ b ∧ b < 1024 ∧ ts = refTags r b ∧ makeD b r.id ts r.data = some r := by
  unfold openD at h
  obtain ⟨⟨ia, ib⟩, tags, data⟩ := r
  cases tags with
  | nil => cases h
  | cons t0 tl =>
    simp only at h
    split at h
    · rename_i hc
      obtain ⟨hr, hmod, hsome⟩ := hc
      simp only [Option.some.injEq, Prod.mk.injEq] at h
      obtain ⟨hb, hts⟩ := h
      obtain ⟨R, hR⟩ := Option.isSome_iff_exists.1 hsome
      rw [hb, hts] at hR
      obtain ⟨hib, _, _, _, hid, hdt, htg⟩ := make_some hR
      obtain ⟨b0, b1⟩ := inB_iff.1 hib
      obtain ⟨hbd, hl8⟩ := right_tags hr
      simp only at hbd hl8
      have ht0 := hbd t0 List.mem_cons_self
      have e0 : t0 = 1 + 1024 * b := by
        have h1 := Int.mul_tdiv_add_tmod (t0 - 1) 1024
        rw [hmod, hb] at h1
        omega
      have e1 : R = ⟨(ia, ib), t0 :: tl, data⟩ := by
        obtain ⟨rid, rtags, rdata⟩ := R
        simp only at hid hdt htg
        rw [hid, hdt, htg, ← hts, List.map_map]
        congr 1
        rw [← e0]
        congr 1
        refine (List.map_congr_left (g := fun t => t) fun t _ => ?_).trans (List.map_id' tl)
        simp only [Function.comp]
        omega
      rw [e1] at hR
      refine ⟨b0, b1, ?_, hR⟩
      rw [← hts]
      unfold refTags
      simp only [List.drop_succ_cons, List.drop_zero]
      rw [List.take_of_length_le (by simp at hl8; omega)]
      refine List.map_congr_left fun t ht => ?_
      have h2 := hbd t (List.mem_cons_of_mem _ ht)
      rw [IntWalk.wrap64_in (t - 1) (by omega), IntWalk.wrap64_in _ (by omega)]
      omega
    · cases h
/-- The outer loop. -/
def RoIn (w0 : World) (r : Rc) (v5 : Value) (wi : World) : Prop :=
  ∃ k : Nat, v5 = .int .i64 (k : Int) ∧ k ≤ 1024 ∧ (∀ j : Nat, j < k → makeD (j : Int) r.id (refTags r j) r.data ≠ some r) ∧ Below w0.heap.size w0 wi
/-- The inner one. -/
def RiIn (w1 : World) (r : Rc) (b : Int) (v6 v7 : Value) (wi : World) : Prop :=
  ∃ n : Nat, v7 = .int .i64 ((n : Int) + 1) ∧ n ≤ (refTags r b).length ∧ wi.ownsRow w1.heap.size 3 1 v6 n (((refTags r b).take n).map (.int .i64 ·)) ∧ Below w1.heap.size w1 wi
theorem ref_at {r : Rc} {b : Int} {n : Nat} {t : Int} (h : r.tags[n + 1]? = some t) (h8 : n < 8) : (refTags r b)[n]? = some (wrap64 (wrap64 (t - 1) - 1024 * b)) := by
  unfold refTags
  rw [List.getElem?_map, List.getElem?_take_of_lt h8, List.getElem?_drop, show 1 + n = n + 1 by omega, h]
  rfl
theorem ref_len (r : Rc) (b : Int) : (refTags r b).length = min 8 (r.tags.length - 1) := by unfold refTags; simp
theorem ref_end {r : Rc} {b : Int} {n : Nat} (h : n ≤ (refTags r b).length) (h2 : ¬ (n + 1 < r.tags.length) ∨ ¬ (n + 1 < 9)) : n = (refTags r b).length := by
  rw [ref_len] at *
  omega
theorem ref_take {r : Rc} {b : Int} {n : Nat} {u : Int} (h : (refTags r b)[n]? = some u) : ((refTags r b).take (n + 1)).map (Value.int .i64 ·) = ((refTags r b).take n).map (.int .i64 ·) ++ [.int .i64 u] := by
  rw [List.take_add_one, h]
  simp
theorem ro_meas {k m : Nat} (h : wrap64 ((k : Int) + 1) = (k : Int) + 1) (h2 : k < m) : m - (intOf (.int .i64 (wrap64 ((k : Int) + 1)))).toNat < m - (intOf (.int .i64 (k : Int))).toNat := by
  rw [h]
  simp [intOf]
  omega
theorem ri_meas {n : Nat} (h : wrap64 ((n : Int) + 1 + 1) = (n : Int) + 1 + 1) (h2 : n < 9) : 10 - (intOf (.int .i64 (wrap64 ((n : Int) + 1 + 1)))).toNat < 10 - (intOf (.int .i64 ((n : Int) + 1))).toNat := by
  rw [h]
  simp [intOf]
  omega
set_option maxRecDepth 100000 in
set_option maxHeartbeats 8000000 in
theorem ropen_any (r : Rc) (rv : Value) (w : World) (hv : VRow (fun k => k < w.heap.size) 1 intO w rv r.tags) (hm : r.tags.length ≤ 140737488351232) :
    Calls Try.prog 23 #[recV r rv] w (OpenPost (openD r) w) := by
  obtain ⟨rr, hrr⟩ : ∃ R, R = r := ⟨_, rfl⟩
  obtain ⟨⟨ia, ib⟩, tags, data⟩ := r
  simp only at hv hm
  have hb0 := below1 w (.cells #[.int .i64 ia, .int .i64 ib, rv, .string data] 26)
  have B0 := Blk.new w #[.int .i64 ia, .int .i64 ib, rv, .string data] 26
  obtain ⟨w0, hw0⟩ : ∃ w0, w0 = w.alloc (.cells #[.int .i64 ia, .int .i64 ib, rv, .string data] 26) := ⟨_, rfl⟩
  rw [← hw0] at hb0 B0
  have HB0 := Lib.hid hb0
  have HK0 := Lib.hid B0
  have HV0 := Lib.hid (hv.below hb0)
  have HM := Lib.hid hm
  obtain ⟨ta, tcap, rfl, _, _⟩ := hv.slice
  rw [← hrr]
  have HRR := Lib.hid hrr
  unfold recV
  rw [HRR.out]
  simp only
  rw [← HRR.out]
  clear hv hm hb0 B0 hrr
  go_enter Try.func23, Try.ntmps23
  go_wp2_with fail
  rw [← hw0]
  clear hw0
  go_loopw [5] (fun v5 wi => RoIn w0 rr v5 wi) (fun i _ => 1024 - (intOf i).toNat)
  case atStart => exact ⟨0, rfl, Nat.zero_le _, fun j hj => absurd hj (Nat.not_lt_zero _), Below.refl _ _⟩
  case round =>
    obtain ⟨k, rfl, hk, hno, hbr⟩ := hrel
    have HNO := Lib.hid hno
    have HBR := Lib.hid hbr
    have HKR := Lib.hid (HK0.out.below hbr)
    clear hno hbr
    by_cases hlt : k < 1024
    · have ht : decide ((k : Int) < 1024) = true := decide_eq_true (by omega)
      have HLT := Lib.hid hlt
      obtain ⟨q1, q2⟩ := HKR.out.cells
      have l1 := HKR.out.lt
      clear hlt
      go_wp2_with fail
      obtain ⟨wo, hwo⟩ : ∃ w', w' = wr := ⟨_, rfl⟩
      subst hwo
      go_loopw [6, 7] (fun v6 v7 wi => RiIn wo rr (k : Int) v6 v7 wi) (fun _ i _ => 10 - (intOf i).toNat)
      case atStart => exact ⟨0, rfl, Nat.zero_le _, World.ownsRow_nil _ _ _ _, Below.refl _ _⟩
      case round =>
        obtain ⟨n, rfl, hn, hrow, hb2⟩ := hrel
        have HROW := Lib.hid hrow
        have HB2 := Lib.hid hb2
        have HK2 := Lib.hid (HKR.out.below hb2)
        obtain ⟨a6, cap6, e⟩ := owns_form hrow
        subst e
        obtain ⟨z1, z2⟩ := HK2.out.cells
        have m1 := HK2.out.lt
        clear hrow hb2 q1 q2 l1
        have HW3 := Lib.hid (show wrap64 ((k : Int) + 1) = (k : Int) + 1 from IntWalk.wrap64_in _ (by have := HLT.out; omega))
        by_cases h1 : n + 1 < tags.length
        · have t1 : decide ((n : Int) + 1 < (tags.length : Int)) = true := decide_eq_true (by omega)
          by_cases h2 : n + 1 < 9
          · have t2 : decide ((n : Int) + 1 < 9) = true := decide_eq_true (by omega)
            obtain ⟨t, hp⟩ : ∃ t, tags[n + 1]? = some t := ⟨_, List.getElem?_eq_getElem h1⟩
            obtain ⟨g, off, cap', e, hat⟩ := (HV0.out.below (HBR.out.trans (HB2.out.mono HBR.out.size))).at hp
            cases e
            have c0 : wr.cell? ⟨g, off + (n + 1), none⟩ = some (.int .i64 t) := by simpa using hat 0 _ rfl
            have HRT := Lib.hid (ref_take (r := rr) (b := (k : Int)) (n := n) (ref_at (by rw [HRR.out]; exact hp) (by omega)))
            have HNL := Lib.hid (show n + 1 ≤ (refTags rr (k : Int)).length by rw [ref_len, HRR.out]; simp only; omega)
            have hwk : wrap64 (1024 * (k : Int)) = 1024 * (k : Int) := IntWalk.wrap64_in _ (by have := HLT.out; omega)
            have HW4 := Lib.hid (show wrap64 ((n : Int) + 1 + 1) = (n : Int) + 1 + 1 from IntWalk.wrap64_in _ (by omega))
            have HN9 := Lib.hid (show n < 9 by omega)
            have hmax : n + 1 ≤ maxLen := by unfold maxLen; omega
            obtain ⟨u, hu⟩ : ∃ u, wrap64 (wrap64 (t - 1) - 1024 * (k : Int)) = u := ⟨_, rfl⟩
            rw [hu] at HRT
            obtain ⟨i0, hi, hz0, hz1', hz2'⟩ := info_parts infoInt
            have hidx : ((n : Int) + 1).toNat = n + 1 := by omega
            have hidl : n + 1 < tags.length := h1
            clear hp hat h1 h2
            go_wp2_with (at_builtin; refine wpList_append_own _ rfl (.tmp 25) (.tmp 35) 24 rfl wo.heap.size 3 i0 (.int .i64 0) 1 8 Try.underlying24 hi hz0 hz1' hz2' rfl (by decide) _ _ _ rfl (HROW.out.alloc _) ⟨wr.heap.size, 0, none⟩ 1 1 [.int .i64 u] rfl rfl (cell_one_new _ _ _) (by simp [Value.oneCell']) hmax (by have := HN9.out; omega) (by have := HB2.out.size; simp; omega) ?_; intro v' w9 hown' hgrow0 _; have hgrow : (wr.alloc (.cells #[.int .i64 u] 3)).grownBy w9 (Value.slice a6 n cap6).ownBlock := hgrow0; clear hgrow0; obtain ⟨g', cap'', rfl⟩ := ownsRow_succ hown')
            have hc1 : Ch (fun j => wo.heap.size ≤ j) wr w9 := ((Ch.refl _ wr).alloc (.cells #[.int .i64 u] 3)).trans ((Ch.of_grown hgrow).mono fun j e => (owns_base HROW.out e.symm).1)
            have hb9 : Below wo.heap.size wo w9 := Ch.below ((Ch.of_below (fun _ => False) HB2.out).step hc1 (fun j hj e => by omega))
            go_roundw
            case rel => exact ⟨n + 1, (by first | rfl | (rw [HW4.out]; simp)), HNL.out, by rw [HRT.out]; exact hown', hb9⟩
            case measure => first | exact ri_meas HW4.out HN9.out | (simp [intOf]; have := HN9.out; omega)
          · have t2 : decide ((n : Int) + 1 < 9) = false := decide_eq_false (by omega)
            obtain rfl : n = (refTags rr (k : Int)).length := ref_end hn (.inr h2)
            have hvr : VRow (fun j => wo.heap.size ≤ j) 1 intO wr (.slice a6 (refTags rr (k : Int)).length cap6) (refTags rr (k : Int)) := by
              have h := HROW.out
              rw [List.take_length] at h
              exact owns_row h
            have HVR := Lib.hid hvr
            have HMK := rmake_any (k : Int) (ia, ib) (refTags rr (k : Int)) _ data wr (hvr.mono fun j hj _ => hj) (by rw [ref_len]; omega)
            obtain ⟨o, ho⟩ : ∃ o, makeD (k : Int) (ia, ib) (refTags rr (k : Int)) data = o := ⟨_, rfl⟩
            have HO := Lib.hid ho
            rw [ho] at HMK
            unfold plV at HMK
            have HMK := Lib.hid HMK
            have HBQ := Lib.hid (HBR.out.trans (HB2.out.mono HBR.out.size))
            clear hvr ho
            go_wp2_with fail
            refine HMK.out.mono ?_
            rintro e w5 ⟨xv, rfl, hx, hb5⟩
            obtain ⟨xa, xcap, rfl, _, _⟩ := hx.slice
            have HX5 := Lib.hid hx
            have HB5 := Lib.hid (HBQ.out.trans (hb5.mono HBQ.out.size))
            have HK5 := Lib.hid (HK2.out.below hb5)
            have HV5 := Lib.hid (HVR.out.below hb5)
            have HRV5 := Lib.hid (HV0.out.below HB5.out)
            clear hx hb5 z1 z2 m1 HMK
            cases o with
            | none =>
              unfold recV rc0
              simp only [Option.getD_none, Option.isSome_none, Bool.false_eq_true, if_false]
              rw [show ([] : List Int).length = 0 from rfl]
              have hb6 := below1 w5 (.cells #[.int .i64 0, .int .i64 0, .slice xa 0 xcap, .string ⟨#[]⟩] 26)
              have HB6 := Lib.hid (HB5.out.trans (hb6.mono HB5.out.size))
              have HNX := Lib.hid (show ∀ j : Nat, j < k + 1 → makeD (j : Int) rr.id (refTags rr j) rr.data ≠ some rr from fun j hj => by
                by_cases hjk : j = k
                · subst hjk
                  rw [HRR.out] at HO
                  rw [HRR.out, HO.out]
                  simp
                · exact HNO.out j (by omega))
              clear hb6
              go_wp2_with fail
              go_roundw
              case rel => exact ⟨k + 1, (by first | rfl | (rw [HW3.out]; rfl)), HLT.out, HNX.out, HB6.out⟩
              case measure => first | exact ro_meas HW3.out HLT.out | (simp [intOf]; have := HLT.out; omega)
            | some R =>
              obtain ⟨⟨ja, jb⟩, jt, jd⟩ := R
              have hjl := (right_tags (make_some HO.out).2.2.2.1).2
              simp only at hjl
              unfold recV
              simp only [Option.getD_some, Option.isSome_some, if_true] at HX5 ⊢
              have hb6 := below1 w5 (.cells #[.int .i64 ja, .int .i64 jb, .slice xa jt.length xcap, .string jd] 26)
              obtain ⟨w6, hw6⟩ : ∃ w6, w6 = w5.alloc (.cells #[.int .i64 ja, .int .i64 jb, .slice xa jt.length xcap, .string jd] 26) := ⟨_, rfl⟩
              rw [← hw6] at hb6
              have HSM := rsame_any ⟨(ja, jb), jt, jd⟩ ⟨(ia, ib), tags, data⟩ _ _ w6 (HX5.out.below hb6) (HRV5.out.below hb6) (by simp only; omega)
              obtain ⟨sm, hsm⟩ : ∃ s, sameR ⟨(ja, jb), jt, jd⟩ ⟨(ia, ib), tags, data⟩ = s := ⟨_, rfl⟩
              have HSE := Lib.hid hsm
              rw [hsm] at HSM
              unfold recV at HSM
              simp only at HSM
              have HSM := Lib.hid HSM
              have HB6 := Lib.hid (HB5.out.trans (hb6.mono HB5.out.size))
              have HV6 := Lib.hid (HV5.out.below hb6)
              obtain ⟨q1, q2⟩ := HK5.out.cells
              have l1 := HK5.out.lt
              clear hb6 hsm hjl
              go_wp2_with fail
              rw [← hw6]
              clear hw6 q1 q2 l1
              refine HSM.out.mono ?_
              rintro e w7 ⟨rfl, hb7⟩
              have HB7 := Lib.hid (HB6.out.trans (hb7.mono HB6.out.size))
              have HV7 := Lib.hid (HV6.out.below hb7)
              clear hb7 HSM
              cases sm with
              | true =>
                have HF := Lib.hid (show openD rr = some ((k : Int), refTags rr (k : Int)) from by
                  have h := sameR_iff.1 HSE.out
                  have h2 := HO.out
                  rw [h] at h2
                  have h3 := open_made h2
                  rw [← HRR.out] at h3
                  exact h3)
                go_wp2_with fail
                refine bodyPost_ret (v := .tuple #[.int .i64 (k : Int), .slice a6 (refTags rr (k : Int)).length cap6, .bool true]) (by simp [results, Try.results23, go_sem]) rfl ?_
                rw [HF.out]
                exact ⟨_, rfl, HV7.out.mono fun j _ hj => Nat.le_trans HB0.out.size (Nat.le_trans HBR.out.size hj), HB0.out.trans (HB7.out.mono HB0.out.size)⟩
              | false =>
                have HNX := Lib.hid (show ∀ j : Nat, j < k + 1 → makeD (j : Int) rr.id (refTags rr j) rr.data ≠ some rr from fun j hj => by
                  by_cases hjk : j = k
                  · subst hjk
                    intro e
                    have h2 := HO.out
                    rw [HRR.out] at e h2
                    simp only at e
                    rw [e] at h2
                    cases h2
                    have h3 := HSE.out
                    rw [sameR_iff.2 rfl] at h3
                    cases h3
                  · exact HNO.out j (by omega))
                go_wp2_with fail
                go_roundw
                case rel => exact ⟨k + 1, (by first | rfl | (rw [HW3.out]; rfl)), HLT.out, HNX.out, HB7.out⟩
                case measure => first | exact ro_meas HW3.out HLT.out | (simp [intOf]; have := HLT.out; omega)
        · have t1 : decide ((n : Int) + 1 < (tags.length : Int)) = false := decide_eq_false (by omega)
          obtain rfl : n = (refTags rr (k : Int)).length := ref_end hn (.inl (by rw [HRR.out]; exact h1))
          have hvr : VRow (fun j => wo.heap.size ≤ j) 1 intO wr (.slice a6 (refTags rr (k : Int)).length cap6) (refTags rr (k : Int)) := by
            have h := HROW.out
            rw [List.take_length] at h
            exact owns_row h
          have HVR := Lib.hid hvr
          have HMK := rmake_any (k : Int) (ia, ib) (refTags rr (k : Int)) _ data wr (hvr.mono fun j hj _ => hj) (by rw [ref_len]; omega)
          obtain ⟨o, ho⟩ : ∃ o, makeD (k : Int) (ia, ib) (refTags rr (k : Int)) data = o := ⟨_, rfl⟩
          have HO := Lib.hid ho
          rw [ho] at HMK
          unfold plV at HMK
          have HMK := Lib.hid HMK
          have HBQ := Lib.hid (HBR.out.trans (HB2.out.mono HBR.out.size))
          clear hvr ho
          go_wp2_with fail
          refine HMK.out.mono ?_
          rintro e w5 ⟨xv, rfl, hx, hb5⟩
          obtain ⟨xa, xcap, rfl, _, _⟩ := hx.slice
          have HX5 := Lib.hid hx
          have HB5 := Lib.hid (HBQ.out.trans (hb5.mono HBQ.out.size))
          have HK5 := Lib.hid (HK2.out.below hb5)
          have HV5 := Lib.hid (HVR.out.below hb5)
          have HRV5 := Lib.hid (HV0.out.below HB5.out)
          clear hx hb5 z1 z2 m1 HMK
          cases o with
          | none =>
            unfold recV rc0
            simp only [Option.getD_none, Option.isSome_none, Bool.false_eq_true, if_false]
            rw [show ([] : List Int).length = 0 from rfl]
            have hb6 := below1 w5 (.cells #[.int .i64 0, .int .i64 0, .slice xa 0 xcap, .string ⟨#[]⟩] 26)
            have HB6 := Lib.hid (HB5.out.trans (hb6.mono HB5.out.size))
            have HNX := Lib.hid (show ∀ j : Nat, j < k + 1 → makeD (j : Int) rr.id (refTags rr j) rr.data ≠ some rr from fun j hj => by
              by_cases hjk : j = k
              · subst hjk
                rw [HRR.out] at HO
                rw [HRR.out, HO.out]
                simp
              · exact HNO.out j (by omega))
            clear hb6
            go_wp2_with fail
            go_roundw
            case rel => exact ⟨k + 1, (by first | rfl | (rw [HW3.out]; rfl)), HLT.out, HNX.out, HB6.out⟩
            case measure => first | exact ro_meas HW3.out HLT.out | (simp [intOf]; have := HLT.out; omega)
          | some R =>
            obtain ⟨⟨ja, jb⟩, jt, jd⟩ := R
            have hjl := (right_tags (make_some HO.out).2.2.2.1).2
            simp only at hjl
            unfold recV
            simp only [Option.getD_some, Option.isSome_some, if_true] at HX5 ⊢
            have hb6 := below1 w5 (.cells #[.int .i64 ja, .int .i64 jb, .slice xa jt.length xcap, .string jd] 26)
            obtain ⟨w6, hw6⟩ : ∃ w6, w6 = w5.alloc (.cells #[.int .i64 ja, .int .i64 jb, .slice xa jt.length xcap, .string jd] 26) := ⟨_, rfl⟩
            rw [← hw6] at hb6
            have HSM := rsame_any ⟨(ja, jb), jt, jd⟩ ⟨(ia, ib), tags, data⟩ _ _ w6 (HX5.out.below hb6) (HRV5.out.below hb6) (by simp only; omega)
            obtain ⟨sm, hsm⟩ : ∃ s, sameR ⟨(ja, jb), jt, jd⟩ ⟨(ia, ib), tags, data⟩ = s := ⟨_, rfl⟩
            have HSE := Lib.hid hsm
            rw [hsm] at HSM
            unfold recV at HSM
            simp only at HSM
            have HSM := Lib.hid HSM
            have HB6 := Lib.hid (HB5.out.trans (hb6.mono HB5.out.size))
            have HV6 := Lib.hid (HV5.out.below hb6)
            obtain ⟨q1, q2⟩ := HK5.out.cells
            have l1 := HK5.out.lt
            clear hb6 hsm hjl
            go_wp2_with fail
            rw [← hw6]
            clear hw6 q1 q2 l1
            refine HSM.out.mono ?_
            rintro e w7 ⟨rfl, hb7⟩
            have HB7 := Lib.hid (HB6.out.trans (hb7.mono HB6.out.size))
            have HV7 := Lib.hid (HV6.out.below hb7)
            clear hb7 HSM
            cases sm with
            | true =>
              have HF := Lib.hid (show openD rr = some ((k : Int), refTags rr (k : Int)) from by
                have h := sameR_iff.1 HSE.out
                have h2 := HO.out
                rw [h] at h2
                have h3 := open_made h2
                rw [← HRR.out] at h3
                exact h3)
              go_wp2_with fail
              refine bodyPost_ret (v := .tuple #[.int .i64 (k : Int), .slice a6 (refTags rr (k : Int)).length cap6, .bool true]) (by simp [results, Try.results23, go_sem]) rfl ?_
              rw [HF.out]
              exact ⟨_, rfl, HV7.out.mono fun j _ hj => Nat.le_trans HB0.out.size (Nat.le_trans HBR.out.size hj), HB0.out.trans (HB7.out.mono HB0.out.size)⟩
            | false =>
              have HNX := Lib.hid (show ∀ j : Nat, j < k + 1 → makeD (j : Int) rr.id (refTags rr j) rr.data ≠ some rr from fun j hj => by
                by_cases hjk : j = k
                · subst hjk
                  intro e
                  have h2 := HO.out
                  rw [HRR.out] at e h2
                  simp only at e
                  rw [e] at h2
                  cases h2
                  have h3 := HSE.out
                  rw [sameR_iff.2 rfl] at h3
                  cases h3
                · exact HNO.out j (by omega))
              go_wp2_with fail
              go_roundw
              case rel => exact ⟨k + 1, (by first | rfl | (rw [HW3.out]; rfl)), HLT.out, HNX.out, HB7.out⟩
              case measure => first | exact ro_meas HW3.out HLT.out | (simp [intOf]; have := HLT.out; omega)
    · have ht : decide ((k : Int) < 1024) = false := decide_eq_false (by omega)
      have HF := Lib.hid (show openD rr = none from by
        cases ho : openD rr with
        | none => rfl
        | some q =>
          obtain ⟨b, ts⟩ := q
          obtain ⟨h0, h1, h2, h3⟩ := open_find ho
          refine absurd ?_ (HNO.out b.toNat (by omega))
          rw [show ((b.toNat : Nat) : Int) = b by omega, ← h2]
          exact h3)
      go_wp2_with fail
      refine bodyPost_ret (v := .tuple #[.int .i64 0, .slice none 0 0, .bool false]) (by simp [results, Try.results23, go_sem]) rfl ?_
      rw [HF.out]
      exact open_no _ _ (HB0.out.trans (HBR.out.mono HB0.out.size))
end Go.Proofs.Ytpdibjaeopcimaa
