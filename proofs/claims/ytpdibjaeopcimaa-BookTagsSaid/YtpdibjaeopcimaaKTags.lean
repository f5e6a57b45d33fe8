/- BookTags: the walk. -/
import Derived.Test.YtpdibjaeopcimaaKo
set_option linter.unusedVariables false
set_option linter.unusedSimpArgs false
namespace Go.Proofs.Ytpdibjaeopcimaa
open Go.RowKit

theorem open_len (r : Rc) (h : r.tags.length ≤ 140737488351232) : ((openD r).getD (0, [])).2.length ≤ 140737488351232 := by
  cases ho : openD r with
  | none => simp
  | some q =>
    obtain ⟨b, ts⟩ := q
    have := (make_some (open_find ho).2.2.2).2.2.1
    simp only [Option.getD_some]
    omega
theorem made_len (o : Option Rc) {b : Int} {id : Pl} {tags : List Int} {data : ByteArray} (h : makeD b id tags data = o) : (o.getD rc0).tags.length ≤ 8 := by
  cases o with
  | none => simp [rc0]
  | some R => exact (right_tags (make_some h).2.2.2.1).2
/-- BookTags' loop. -/
def BtIn (w6 : World) (v : Value) (wi : World) : Prop := ∃ k : Nat, k ≤ 2 ∧ v = .int .i64 (k : Int) ∧ Below w6.heap.size w6 wi
set_option maxRecDepth 100000 in
set_option maxHeartbeats 16000000 in
theorem btags_main (b : Int) (tags : List Int) (tv : Value) (r : Rc) (rv : Value) (w : World) (hv : VRow (fun k => k < w.heap.size) 1 intO w tv tags) (hr : VRow (fun k => k < w.heap.size) 1 intO w rv r.tags) :
    Calls Try.prog 5 #[.int .i64 b, tv, recV r rv] w fun e w' => e = .returned (.bool true) ∧ Below w.heap.size w w' := by
  obtain ⟨⟨ia, ib⟩, rt, data⟩ := r
  simp only at hr
  have hb0 := below1 w (.cells #[.int .i64 ia, .int .i64 ib, rv, .string data] 26)
  have B0 := Blk.new w #[.int .i64 ia, .int .i64 ib, rv, .string data] 26
  obtain ⟨w0, hw0⟩ : ∃ w0, w0 = w.alloc (.cells #[.int .i64 ia, .int .i64 ib, rv, .string data] 26) := ⟨_, rfl⟩
  rw [← hw0] at hb0 B0
  have hv0 := hv.below hb0
  have HB0 := Lib.hid hb0
  have HR0 := Lib.hid B0
  have HV0 := Lib.hid hv0
  have HRV0 := Lib.hid (hr.below hb0)
  obtain ⟨ta, tcap, rfl, _, _⟩ := hv.slice
  obtain ⟨ra, rcap, rfl, _, _⟩ := hr.slice
  unfold recV
  simp only
  have HAL := Lib.hid (fun (w' : World) (h : Below w0.heap.size w0 w') => show Below w.heap.size w w' from HB0.out.trans (h.mono HB0.out.size))
  clear hv hr
  by_cases h1 : 100 < tags.length
  · have t1 : decide ((100 : Int) < (tags.length : Int)) = true := decide_eq_true (by omega)
    clear h1 hb0 B0 hv0
    go_enter Try.func5, Try.ntmps5
    go_wp2_with fail
    rw [← hw0]
    clear hw0
    refine (balive_any _).mono ?_
    rintro e w5 ⟨rfl, hb5⟩
    have HB5 := Lib.hid (HAL.out _ hb5)
    clear hb5
    go_wp2_with fail
    go_ret
    exact ⟨rfl, HB5.out⟩
  have t1 : decide ((100 : Int) < (tags.length : Int)) = false := decide_eq_false (by omega)
  by_cases h2 : 100 < rt.length
  · have t2 : decide ((100 : Int) < (rt.length : Int)) = true := decide_eq_true (by omega)
    clear h1 h2 hb0 B0 hv0
    go_enter Try.func5, Try.ntmps5
    go_wp2_with fail
    rw [← hw0]
    clear hw0
    refine (balive_any _).mono ?_
    rintro e w5 ⟨rfl, hb5⟩
    have HB5 := Lib.hid (HAL.out _ hb5)
    clear hb5
    go_wp2_with fail
    go_ret
    exact ⟨rfl, HB5.out⟩
  have t2 : decide ((100 : Int) < (rt.length : Int)) = false := decide_eq_false (by omega)
  have HLT := Lib.hid (show tags.length ≤ 100 by omega)
  have HMK := make_any b (ia, ib) tags _ data w0 (hv0.mono fun k hk _ => hk) (by omega)
  obtain ⟨o, ho⟩ : ∃ o, makeD b (ia, ib) tags data = o := ⟨_, rfl⟩
  have hjl := made_len o ho
  rw [ho] at HMK
  unfold MakePost at HMK
  obtain ⟨R, hR⟩ : ∃ R, o.getD rc0 = R := ⟨_, rfl⟩
  obtain ⟨cd, hcd⟩ : ∃ c : Int, (if o.isSome = true then 0 else 1) = c := ⟨_, rfl⟩
  rw [hR, hcd] at HMK
  rw [hR] at hjl
  obtain ⟨⟨ja, jb⟩, jt, jd⟩ := R
  unfold recV plV at HMK
  simp only at HMK hjl
  have HMK := Lib.hid HMK
  have HLX := Lib.hid (show jt.length ≤ 8 ∧ rt.length ≤ 100 from ⟨hjl, by omega⟩)
  have HE := Lib.hid (And.intro ho (And.intro hR hcd))
  clear h1 h2 hb0 B0 hv0 ho hR hcd hjl
  go_enter Try.func5, Try.ntmps5
  go_wp2_with fail
  rw [← hw0]
  clear hw0
  refine HMK.out.mono ?_
  rintro e w1 ⟨xv, rfl, hx, hb1⟩
  obtain ⟨xa, xcap, rfl, _, _⟩ := hx.slice
  have hb2 := below1 w1 (.cells #[.int .i64 ja, .int .i64 jb, .slice xa jt.length xcap, .string jd] 26)
  have hb12 := hb1.trans (hb2.mono hb1.size)
  have hx2 := hx.below hb2
  have B2 := Blk.new w1 #[.int .i64 ja, .int .i64 jb, .slice xa jt.length xcap, .string jd] 26
  obtain ⟨w2, hw2⟩ : ∃ w2, w2 = w1.alloc (.cells #[.int .i64 ja, .int .i64 jb, .slice xa jt.length xcap, .string jd] 26) := ⟨_, rfl⟩
  rw [← hw2] at hb12 hx2 B2
  have HRM := rmake_any b (ia, ib) tags _ data w2 ((HV0.out.below hb12).mono fun k hk _ => hk) (by have := HLT.out; omega)
  rw [HE.out.1] at HRM
  unfold MakePost at HRM
  rw [HE.out.2.1, HE.out.2.2] at HRM
  unfold recV plV at HRM
  simp only at HRM
  have HRM := Lib.hid HRM
  have hr1 := HR0.out.below hb1
  obtain ⟨q1, q2⟩ := hr1.cells
  have l1 := hr1.lt
  have HX2 := Lib.hid hx2
  have HB2 := Lib.hid hb12
  have HK2 := Lib.hid B2
  clear hx hb1 hb2 hb12 hx2 B2 hr1 HMK t1 t2
  go_wp2_with fail
  rw [← hw2]
  clear hw2 q1 q2 l1
  refine HRM.out.mono ?_
  rintro e w3 ⟨yv, rfl, hy, hb3⟩
  obtain ⟨ya, ycap, rfl, _, _⟩ := hy.slice
  have hb4 := below1 w3 (.cells #[.int .i64 ja, .int .i64 jb, .slice ya jt.length ycap, .string jd] 26)
  have hb34 := hb3.trans (hb4.mono hb3.size)
  obtain ⟨w4, hw4⟩ : ∃ w4, w4 = w3.alloc (.cells #[.int .i64 ja, .int .i64 jb, .slice ya jt.length ycap, .string jd] 26) := ⟨_, rfl⟩
  have hy4 := hy.below hb4
  rw [← hw4] at hb34 hy4
  have hx4 := HX2.out.below hb34
  have HSM := rsame_any ⟨(ja, jb), jt, jd⟩ ⟨(ja, jb), jt, jd⟩ _ _ w4 hx4 hy4 (by simp only; have := HLX.out; omega)
  rw [sameR_iff.2 rfl] at HSM
  unfold recV at HSM
  simp only at HSM
  have HSM := Lib.hid HSM
  have HX4 := Lib.hid hx4
  have HB4 := Lib.hid (HB2.out.trans (hb34.mono HB2.out.size))
  have HK4 := Lib.hid (HK2.out.below hb34)
  have hk3 := HK2.out.below hb3
  obtain ⟨q1, q2⟩ := hk3.cells
  have l1 := hk3.lt
  clear hy hb3 hb4 hb34 hy4 hx4 hk3 HRM
  go_wp2_with fail
  rw [← hw4]
  clear hw4 q1 q2 l1
  refine HSM.out.mono ?_
  rintro e w5 ⟨rfl, hb5⟩
  have HB5 := Lib.hid (HB4.out.trans (hb5.mono HB4.out.size))
  have hk5 := HK4.out.below hb5
  have hr5 := HR0.out.below HB5.out
  obtain ⟨q1, q2⟩ := hk5.cells
  obtain ⟨q3, q4⟩ := hr5.cells
  have l1 := hk5.lt
  have l2 := hr5.lt
  have hcc : (cd != cd) = false := by simp
  have hb6 := below1 w5 (.cells #[.int .i64 ja, .int .i64 jb, .slice xa jt.length xcap, .string jd, .int .i64 ia, .int .i64 ib, .slice ra rt.length rcap, .string data] 26)
  have B6 := Blk.new w5 #[.int .i64 ja, .int .i64 jb, .slice xa jt.length xcap, .string jd, .int .i64 ia, .int .i64 ib, .slice ra rt.length rcap, .string data] 26
  have hx6 := (HX4.out.below hb5).below hb6
  have hrv6 := (HRV0.out.below HB5.out).below hb6
  obtain ⟨w6, hw6⟩ : ∃ w6, w6 = w5.alloc (.cells #[.int .i64 ja, .int .i64 jb, .slice xa jt.length xcap, .string jd, .int .i64 ia, .int .i64 ib, .slice ra rt.length rcap, .string data] 26) := ⟨_, rfl⟩
  have hb06 := HB5.out.trans (hb6.mono HB5.out.size)
  rw [← hw6] at B6 hx6 hrv6 hb06
  have HS6 := Lib.hid B6
  have HX6 := Lib.hid hx6
  have HRV6 := Lib.hid hrv6
  have HB6 := Lib.hid hb06
  clear hb5 hk5 hr5 hb6 B6 hx6 hrv6 hb06 HSM
  go_wp2_with fail
  rw [← hw6]
  clear hw6 q1 q2 q3 q4 l1 l2 hcc
  go_loopw [67] (fun v wi => BtIn w6 v wi) (fun i _ => 2 - (intOf i).toNat)
  case atStart => exact ⟨0, Nat.zero_le _, rfl, Below.refl _ _⟩
  case round =>
    obtain ⟨k, hk, rfl, hbr⟩ := hrel
    have HBR := Lib.hid hbr
    clear hbr
    obtain rfl | rfl | rfl : k = 0 ∨ k = 1 ∨ k = 2 := by omega
    · clear hk
      have ht : decide ((0 : Int) < 2) = true := rfl
      have hc := below1 wr (.cells #[.int .i64 ja, .int .i64 jb, .slice xa jt.length xcap, .string jd] 26)
      have hz := (HX6.out.below HBR.out).below hc
      have B := Blk.new wr #[.int .i64 ja, .int .i64 jb, .slice xa jt.length xcap, .string jd] 26
      obtain ⟨wa, hwa⟩ : ∃ wa, wa = wr.alloc (.cells #[.int .i64 ja, .int .i64 jb, .slice xa jt.length xcap, .string jd] 26) := ⟨_, rfl⟩
      rw [← hwa] at hc hz B
      have HOP := open_any ⟨(ja, jb), jt, jd⟩ _ wa (hz.mono fun j hj _ => hj) (by simp only; have := HLX.out; omega)
      obtain ⟨o2, ho2⟩ : ∃ o2, openD ⟨(ja, jb), jt, jd⟩ = o2 := ⟨_, rfl⟩
      rw [ho2] at HOP
      unfold recV at HOP
      simp only at HOP
      have HOP := Lib.hid HOP
      have HO2 := Lib.hid ho2
      have HZ := Lib.hid hz
      have HB := Lib.hid B
      have HC := Lib.hid (HBR.out.trans (hc.mono HBR.out.size))
      have hq := HS6.out.below HBR.out
      obtain ⟨q1, q2⟩ := hq.cells
      have l1 := hq.lt
      clear hc hz B ho2 hq
      go_wp2_with fail
      rw [← hwa]
      clear hwa q1 q2 l1
      refine HOP.out.mono ?_
      rintro e wb ⟨lv, rfl, hl, hbb⟩
      obtain ⟨la, lcap, rfl, _, _⟩ := hl.slice
      have HCB := Lib.hid (HC.out.trans (hbb.mono HC.out.size))
      have HLV := Lib.hid hl
      have hq := HB.out.below hbb
      obtain ⟨q1, q2⟩ := hq.cells
      have l1 := hq.lt
      have HOR := ropen_any ⟨(ja, jb), jt, jd⟩ _ wb ((HZ.out.below hbb).mono fun j hj _ => hj) (by simp only; have := HLX.out; omega)
      rw [HO2.out] at HOR
      unfold recV at HOR
      simp only at HOR
      have HOR := Lib.hid HOR
      obtain ⟨⟨kb, ks⟩, hkb⟩ : ∃ q, o2.getD (0, []) = q := ⟨_, rfl⟩
      obtain ⟨bi, hbi⟩ : ∃ q, o2.isSome = q := ⟨_, rfl⟩
      unfold OpenPost at HOR
      rw [hkb, hbi] at HOR ⊢
      rw [hkb] at HLV
      have HKS := Lib.hid (show ks.length ≤ 140737488351232 from by
        have h : ks = (o2.getD (0, [])).2 := by rw [hkb]
        rw [h, ← HO2.out]
        exact open_len _ (by simp only; have := HLX.out; omega))
      clear hl hbb hq hkb hbi HOP
      simp only at HLV ⊢
      go_wp2_with fail
      refine HOR.out.mono ?_
      rintro e wc ⟨nv, rfl, hn, hbc⟩
      obtain ⟨na, ncap, rfl, _, _⟩ := hn.slice
      simp only at hn ⊢
      have HCC := Lib.hid (HCB.out.trans (hbc.mono HCB.out.size))
      have HEQ := requal_any ks ks _ _ wc (HLV.out.below hbc) hn HKS.out
      rw [show decide (ks = ks) = true from decide_eq_true rfl] at HEQ
      have HEQ := Lib.hid HEQ
      have hk1 : (kb != kb) = false := by simp
      have hk2 : (bi != bi) = false := by simp
      clear hn hbc HOR q1 q2 l1
      go_wp2_with fail
      refine HEQ.out.mono ?_
      rintro e wd ⟨rfl, hbd⟩
      have HCD := Lib.hid (HCC.out.trans (hbd.mono HCC.out.size))
      clear hbd HEQ
      go_wp2_with fail
      go_roundw
      case rel => exact ⟨1, by omega, rfl, HCD.out⟩
      case measure => simp [intOf]
    · clear hk
      have ht : decide ((1 : Int) < 2) = true := rfl
      have hc := below1 wr (.cells #[.int .i64 ia, .int .i64 ib, .slice ra rt.length rcap, .string data] 26)
      have hz := (HRV6.out.below HBR.out).below hc
      have B := Blk.new wr #[.int .i64 ia, .int .i64 ib, .slice ra rt.length rcap, .string data] 26
      obtain ⟨wa, hwa⟩ : ∃ wa, wa = wr.alloc (.cells #[.int .i64 ia, .int .i64 ib, .slice ra rt.length rcap, .string data] 26) := ⟨_, rfl⟩
      rw [← hwa] at hc hz B
      have HOP := open_any ⟨(ia, ib), rt, data⟩ _ wa (hz.mono fun j hj _ => hj) (by simp only; have := HLX.out; omega)
      obtain ⟨o2, ho2⟩ : ∃ o2, openD ⟨(ia, ib), rt, data⟩ = o2 := ⟨_, rfl⟩
      rw [ho2] at HOP
      unfold recV at HOP
      simp only at HOP
      have HOP := Lib.hid HOP
      have HO2 := Lib.hid ho2
      have HZ := Lib.hid hz
      have HB := Lib.hid B
      have HC := Lib.hid (HBR.out.trans (hc.mono HBR.out.size))
      have hq := HS6.out.below HBR.out
      obtain ⟨q1, q2⟩ := hq.cells
      have l1 := hq.lt
      clear hc hz B ho2 hq
      go_wp2_with fail
      rw [← hwa]
      clear hwa q1 q2 l1
      refine HOP.out.mono ?_
      rintro e wb ⟨lv, rfl, hl, hbb⟩
      obtain ⟨la, lcap, rfl, _, _⟩ := hl.slice
      have HCB := Lib.hid (HC.out.trans (hbb.mono HC.out.size))
      have HLV := Lib.hid hl
      have hq := HB.out.below hbb
      obtain ⟨q1, q2⟩ := hq.cells
      have l1 := hq.lt
      have HOR := ropen_any ⟨(ia, ib), rt, data⟩ _ wb ((HZ.out.below hbb).mono fun j hj _ => hj) (by simp only; have := HLX.out; omega)
      rw [HO2.out] at HOR
      unfold recV at HOR
      simp only at HOR
      have HOR := Lib.hid HOR
      obtain ⟨⟨kb, ks⟩, hkb⟩ : ∃ q, o2.getD (0, []) = q := ⟨_, rfl⟩
      obtain ⟨bi, hbi⟩ : ∃ q, o2.isSome = q := ⟨_, rfl⟩
      unfold OpenPost at HOR
      rw [hkb, hbi] at HOR ⊢
      rw [hkb] at HLV
      have HKS := Lib.hid (show ks.length ≤ 140737488351232 from by
        have h : ks = (o2.getD (0, [])).2 := by rw [hkb]
        rw [h, ← HO2.out]
        exact open_len _ (by simp only; have := HLX.out; omega))
      clear hl hbb hq hkb hbi HOP
      simp only at HLV ⊢
      go_wp2_with fail
      refine HOR.out.mono ?_
      rintro e wc ⟨nv, rfl, hn, hbc⟩
      obtain ⟨na, ncap, rfl, _, _⟩ := hn.slice
      simp only at hn ⊢
      have HCC := Lib.hid (HCB.out.trans (hbc.mono HCB.out.size))
      have HEQ := requal_any ks ks _ _ wc (HLV.out.below hbc) hn HKS.out
      rw [show decide (ks = ks) = true from decide_eq_true rfl] at HEQ
      have HEQ := Lib.hid HEQ
      have hk1 : (kb != kb) = false := by simp
      have hk2 : (bi != bi) = false := by simp
      clear hn hbc HOR q1 q2 l1
      go_wp2_with fail
      refine HEQ.out.mono ?_
      rintro e wd ⟨rfl, hbd⟩
      have HCD := Lib.hid (HCC.out.trans (hbd.mono HCC.out.size))
      clear hbd HEQ
      go_wp2_with fail
      go_roundw
      case rel => exact ⟨2, by omega, rfl, HCD.out⟩
      case measure => simp [intOf]
    · clear hk
      have ht : decide ((2 : Int) < 2) = false := rfl
      have HBE := Lib.hid (HB6.out.trans (HBR.out.mono HB6.out.size))
      by_cases h0 : 0 < tags.length
      · have z1 : decide ((0 : Int) < (tags.length : Int)) = true := decide_eq_true (by omega)
        obtain ⟨t0, hp⟩ : ∃ t, tags[0]? = some t := ⟨_, List.getElem?_eq_getElem h0⟩
        obtain ⟨g, off, cap', e, hat⟩ := (HV0.out.below HBE.out).at hp
        cases e
        have c0 : wr.cell? ⟨g, off, none⟩ = some (.int .i64 t0) := by simpa using hat 0 _ rfl
        clear hp hat
        have HTA := Lib.hid (fun w => tag_any b t0 w)
        have HTB := Lib.hid (fun w => rtag_any b t0 w)
        obtain ⟨⟨u1, u2⟩, htd⟩ : ∃ q, tagD b t0 = q := ⟨_, rfl⟩
        rw [htd] at HTA HTB
        clear htd
        go_wp2_with fail
        refine (HTA.out _).mono ?_
        rintro e w7 ⟨rfl, hw⟩
        rw [hw]
        clear hw
        go_wp2_with fail
        refine (HTB.out _).mono ?_
        rintro e w7 ⟨rfl, hw⟩
        rw [hw]
        clear hw
        go_wp2_with fail
        refine (balive_any _).mono ?_
        rintro e w8 ⟨rfl, hb8⟩
        have HB8 := Lib.hid (HAL.out _ (HBE.out.trans (hb8.mono HBE.out.size)))
        have hu1 : (u1 == u1) = true := by simp
        have hu2 : (u2 == u2) = true := by simp
        clear hb8
        go_wp2_with fail
        go_ret
        exact ⟨rfl, HB8.out⟩
      · have z1 : decide ((0 : Int) < (tags.length : Int)) = false := decide_eq_false (by omega)
        have z2 : decide (0 < tags.length) = false := decide_eq_false h0
        clear h0
        have HTA := Lib.hid (fun w => tag_any b (tags.length : Int) w)
        have HTB := Lib.hid (fun w => rtag_any b (tags.length : Int) w)
        obtain ⟨⟨u1, u2⟩, htd⟩ : ∃ q, tagD b (tags.length : Int) = q := ⟨_, rfl⟩
        rw [htd] at HTA HTB
        clear htd
        go_wp2_with fail
        refine (HTA.out _).mono ?_
        rintro e w7 ⟨rfl, hw⟩
        rw [hw]
        clear hw
        go_wp2_with fail
        refine (HTB.out _).mono ?_
        rintro e w7 ⟨rfl, hw⟩
        rw [hw]
        clear hw
        go_wp2_with fail
        refine (balive_any _).mono ?_
        rintro e w8 ⟨rfl, hb8⟩
        have HB8 := Lib.hid (HAL.out _ (HBE.out.trans (hb8.mono HBE.out.size)))
        have hu1 : (u1 == u1) = true := by simp
        have hu2 : (u2 == u2) = true := by simp
        clear hb8
        go_wp2_with fail
        go_ret
        exact ⟨rfl, HB8.out⟩
/-- BookTags, as its row asks. -/
theorem btags_row {v : Value} (b : Int) (tags : List Int) (p : Rc × Value) (w : World) (_ : (Lit.int .i64 b).wf = true) (hv : VRow (fun k => k < w.heap.size) 1 intO w v tags) (_ : ∀ n ∈ tags, (Lit.int .i64 n).wf = true) (_ : tags.length * 8 ≤ 140737488351232)
    (hp : VRow (fun k => k < w.heap.size) 1 intO w p.2 p.1.tags ∧ p.1.tags.length ≤ 140737488351232 ∧ p.1.data.size ≤ 140737488351232) :
    Calls Try.prog 5 #[.int .i64 b, v, .agg (recO p).toArray] w fun e w' => e = .returned (.bool true) ∧ Below w.heap.size w w' :=
  btags_main b tags v p.1 p.2 w hv hp.1
end Go.Proofs.Ytpdibjaeopcimaa
