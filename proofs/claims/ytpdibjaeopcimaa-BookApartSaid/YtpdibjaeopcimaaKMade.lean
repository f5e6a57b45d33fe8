/- BookMade: the walk. -/
import Derived.Test.YtpdibjaeopcimaaKm
import Derived.Test.YtpdibjaeopcimaaIo
import Derived.Test.YtpdibjaeopcimaaIt
import Derived.Test.YtpdibjaeopcimaaIFl
set_option linter.unusedVariables false
set_option linter.unusedSimpArgs false
namespace Go.Proofs.Ytpdibjaeopcimaa
open Go.RowKit

theorem make_some {b : Int} {id : Pl} {tags : List Int} {data : ByteArray} {R : Rc} (h : makeD b id tags data = some R) :
    inB b = true ∧ (∀ t ∈ tags, inB t = true ∧ 0 < t) ∧ tags.length ≤ 8 ∧ rightR R = true ∧ R.id = id ∧ R.data = data ∧ R.tags = (1 + 1024 * b) :: tags.map (1 + 1024 * b + ·) := by
  unfold makeD at h
  split at h
  · rename_i hc
    obtain ⟨h1, h2, h3⟩ := hc
    cases h
    unfold belowD at h1
    simp only [List.all_cons, Bool.and_eq_true, List.all_map, List.all_eq_true, Function.comp] at h1
    obtain ⟨h0, ht⟩ := h1
    have hb : inB b = true := by
      cases hb : inB b with
      | true => rfl
      | false => rw [tagD_f1 hb] at h0; cases h0
    have htt : ∀ t ∈ tags, inB t = true ∧ 0 < t := fun t hm => by
      have h := ht t hm
      unfold yieldD at h
      simp only [Bool.and_eq_true, decide_eq_true_eq] at h
      refine ⟨?_, h.2⟩
      cases hi : inB t with
      | true => rfl
      | false => rw [tagD_f2 hi] at h; cases h.1
    refine ⟨hb, htt, h2, h3, rfl, rfl, ?_⟩
    unfold makeR belowD
    simp only [List.map_cons, List.map_map]
    rw [tagD_t hb (by decide)]
    congr 1
    · simp
    · refine List.map_congr_left fun t hm => ?_
      simp only [Function.comp, yieldD]
      rw [tagD_t hb (htt t hm).1]
  · cases h
theorem open_made {b : Int} {id : Pl} {tags : List Int} {data : ByteArray} {R : Rc} (h : makeD b id tags data = some R) : openD R = some (b, tags) := by
  obtain ⟨hb, ht, hl, hr, hid, hd, htg⟩ := make_some h
  unfold openD
  rw [htg]
  simp only
  have e1 : (1 + 1024 * b - 1 : Int) = 1024 * b := by omega
  have e2 : (1024 * b : Int).tdiv 1024 = b := Int.mul_tdiv_cancel_left b (by decide)
  have e3 : (1024 * b : Int).tmod 1024 = 0 := Int.mul_tmod_right 1024 b
  have e4 : (tags.map (1 + 1024 * b + ·)).map (· - (1 + 1024 * b)) = tags := by
    rw [List.map_map]
    refine (List.map_congr_left (g := fun t => t) fun t _ => ?_).trans (List.map_id' tags)
    simp only [Function.comp]
    omega
  rw [e1, e2, e3, e4, hid, hd, h]
  simp [hr]
theorem made_has {b : Int} {id : Pl} {tags : List Int} {data : ByteArray} {R : Rc} (h : makeD b id tags data = some R) {t : Int} (ht : t ∈ tags) : tagD b t = (1 + 1024 * b + t, true) ∧ hasR R (1 + 1024 * b + t) = true := by
  obtain ⟨hb, htt, _, _, _, _, htg⟩ := make_some h
  refine ⟨tagD_t hb (htt t ht).1, ?_⟩
  unfold hasR
  rw [htg]
  simp only [Bool.or_eq_true, List.contains_iff_mem]
  exact .inr (List.mem_cons_of_mem _ (List.mem_map_of_mem ht))
theorem made_own {b : Int} {id : Pl} {tags : List Int} {data : ByteArray} {R : Rc} (h : makeD b id tags data = some R) : tagD b 0 = (1 + 1024 * b, true) ∧ hasR R (1 + 1024 * b) = true := by
  obtain ⟨hb, _, _, _, _, _, htg⟩ := make_some h
  refine ⟨by rw [tagD_t hb (by decide)]; simp, ?_⟩
  unfold hasR
  rw [htg]
  simp
/-- BookMade's loop. -/
def MdIn (w0 : World) (tags : List Int) (v : Value) (wi : World) : Prop := ∃ k : Nat, v = .int .i64 (k : Int) ∧ k ≤ tags.length ∧ Below w0.heap.size w0 wi
attribute [local go_sem high] eqId eqSeq
set_option maxRecDepth 100000 in
set_option maxHeartbeats 16000000 in
theorem made_main (b : Int) (tags : List Int) (tv : Value) (r : Rc) (rv : Value) (w : World) (hv : VRow (fun k => k < w.heap.size) 1 intO w tv tags) (hr : VRow (fun k => k < w.heap.size) 1 intO w rv r.tags) (hm : tags.length ≤ 140737488351232) :
    Calls Try.prog 7 #[.int .i64 b, tv, recV r rv] w fun e w' => e = .returned (.bool true) ∧ Below w.heap.size w w' := by
  obtain ⟨⟨ia, ib⟩, rt, data⟩ := r
  have hb0 := below1 w (.cells #[.int .i64 ia, .int .i64 ib, rv, .string data] 26)
  have B0 := Blk.new w #[.int .i64 ia, .int .i64 ib, rv, .string data] 26
  obtain ⟨w0, hw0⟩ : ∃ w0, w0 = w.alloc (.cells #[.int .i64 ia, .int .i64 ib, rv, .string data] 26) := ⟨_, rfl⟩
  rw [← hw0] at hb0 B0
  have hv0 := hv.below hb0
  have HMK := make_any b (ia, ib) tags tv data w0 (hv0.mono fun k hk _ => hk) hm
  unfold plV at HMK
  have HMK := Lib.hid HMK
  have HB0 := Lib.hid hb0
  have HR0 := Lib.hid B0
  have HV0 := Lib.hid hv0
  obtain ⟨ta, tcap, rfl, _, _⟩ := hv.slice
  obtain ⟨ra, rcap, rfl, _, _⟩ := hr.slice
  unfold recV
  simp only
  clear hv hr hm hb0 B0 hv0
  go_enter Try.func7, Try.ntmps7
  go_wp2_with fail
  rw [← hw0]
  clear hw0
  refine HMK.out.mono ?_
  rintro e w1 ⟨xv, rfl, hx, hb1⟩
  obtain ⟨xa, xcap, rfl, _, _⟩ := hx.slice
  have HB1 := Lib.hid (HB0.out.trans (hb1.mono HB0.out.size))
  have HX1 := Lib.hid hx
  have HV1 := Lib.hid (HV0.out.below hb1)
  have HR1 := Lib.hid (HR0.out.below hb1)
  obtain ⟨o, ho⟩ : ∃ o, makeD b (ia, ib) tags data = o := ⟨_, rfl⟩
  rw [ho] at HX1 ⊢
  have HO := Lib.hid ho
  clear hx hb1 ho HMK
  cases o with
  | none =>
    unfold recV rc0
    simp only [Option.getD_none, Option.isSome_none, Bool.false_eq_true, if_false] at HX1 ⊢
    rw [show ([] : List Int).length = 0 from rfl]
    go_wp2_with fail
    refine (balive_any _).mono ?_
    rintro e w2 ⟨rfl, hb2⟩
    have hb12 := (below1 w1 (.cells #[.int .i64 0, .int .i64 0, .slice xa 0 xcap, .string ⟨#[]⟩] 26)).trans (hb2.mono (by simp))
    have B2 := (Blk.new w1 #[.int .i64 0, .int .i64 0, .slice xa 0 xcap, .string ⟨#[]⟩] 26).below hb2
    obtain ⟨q1, q2⟩ := B2.cells
    have l1 := B2.lt
    have HSM := rsame_any rc0 rc0 (.slice xa 0 xcap) (.slice none 0 0) w2 (HX1.out.below hb12) (VRow.nil (fun _ => True) _) (by decide)
    rw [sameR_iff.2 rfl] at HSM
    unfold recV rc0 at HSM
    simp only at HSM
    have HSM := Lib.hid HSM
    have HB2 := Lib.hid (HB1.out.trans (hb12.mono HB1.out.size))
    clear hb2 hb12 B2
    go_wp2_with fail
    refine HSM.out.mono ?_
    rintro e w3 ⟨rfl, hb3⟩
    have HB3 := Lib.hid (HB2.out.trans (hb3.mono HB2.out.size))
    clear hb3
    go_wp2_with fail
    go_ret
    exact ⟨rfl, HB3.out⟩
  | some R =>
    obtain ⟨hb, htt, hl8, hrr, hid, hdt, htg⟩ := make_some HO.out
    obtain ⟨⟨ja, jb⟩, jt, jd⟩ := R
    simp only [Prod.mk.injEq] at hid hdt htg
    obtain ⟨rfl, rfl⟩ := hid
    subst hdt
    have HTG := Lib.hid (And.intro hl8 (show jt.length ≤ 9 by rw [htg]; simp; omega))
    have HRR := Lib.hid hrr
    clear hb htt hrr htg hl8
    unfold recV
    simp only [Option.getD_some, Option.isSome_some, if_true] at HX1 ⊢
    have hb2 := below1 w1 (.cells #[.int .i64 ja, .int .i64 jb, .slice xa jt.length xcap, .string jd] 26)
    have hx2 := HX1.out.below hb2
    have B2 := Blk.new w1 #[.int .i64 ja, .int .i64 jb, .slice xa jt.length xcap, .string jd] 26
    obtain ⟨w2, hw2⟩ : ∃ w2, w2 = w1.alloc (.cells #[.int .i64 ja, .int .i64 jb, .slice xa jt.length xcap, .string jd] 26) := ⟨_, rfl⟩
    have hb2' := HB1.out.trans (hb2.mono HB1.out.size)
    have hv2 := HV1.out.below hb2
    have hr2 := HR1.out.below hb2
    rw [← hw2] at hx2 B2 hb2' hv2 hr2
    have HOP := open_any ⟨(ja, jb), jt, jd⟩ _ w2 (hx2.mono fun k hk _ => hk) (by have := HTG.out.2; simp only; omega)
    rw [open_made HO.out] at HOP
    unfold recV at HOP
    simp only at HOP
    have HOP := Lib.hid HOP
    have HX2 := Lib.hid hx2
    have HB2 := Lib.hid hb2'
    have HV2 := Lib.hid hv2
    have HK2 := Lib.hid B2
    have HR2 := Lib.hid hr2
    have h100 : decide ((100 : Int) < (tags.length : Int)) = false := decide_eq_false (by have := HTG.out.1; omega)
    clear hb2 hx2 B2 hb2' hv2 hr2
    go_wp2_with fail
    rw [← hw2]
    clear hw2 h100
    refine HOP.out.mono ?_
    rintro e w3 ⟨lv, rfl, hl, hb3⟩
    obtain ⟨la, lcap, rfl, _, _⟩ := hl.slice
    simp only [Option.getD_some, Option.isSome_some] at hl ⊢
    have HB3 := Lib.hid (HB2.out.trans (hb3.mono HB2.out.size))
    have HX3 := Lib.hid (HX2.out.below hb3)
    have HV3 := Lib.hid (HV2.out.below hb3)
    have HK3 := Lib.hid (HK2.out.below hb3)
    have HR3 := Lib.hid (HR2.out.below hb3)
    have HL3 := Lib.hid hl
    have HTA := Lib.hid (fun w => tag_any b 0 w)
    rw [(made_own HO.out).1] at HTA
    clear hl hb3 HOP
    go_wp2_with fail
    refine (HTA.out _).mono ?_
    rintro e w4 ⟨rfl, hw⟩
    rw [hw]
    clear hw HTA
    go_wp2_with fail
    go_loopw [58] (fun v wi => MdIn w3 tags v wi) (fun i _ => tags.length - (intOf i).toNat)
    case atStart => exact ⟨0, rfl, Nat.zero_le _, Below.refl _ _⟩
    case round =>
      obtain ⟨k, rfl, hk, hbr⟩ := hrel
      have HBR := Lib.hid hbr
      have hk3 := HK3.out.below hbr
      obtain ⟨q1, q2⟩ := hk3.cells
      have l1 := hk3.lt
      by_cases hlt : k < tags.length
      · have ht : decide ((k : Int) < (tags.length : Int)) = true := by simpa using hlt
        obtain ⟨t, hp⟩ : ∃ t, tags[k]? = some t := ⟨_, List.getElem?_eq_getElem hlt⟩
        obtain ⟨g, off, cap', e, hat⟩ := (HV3.out.below hbr).at hp
        cases e
        have c0 : wr.cell? ⟨g, off + k, none⟩ = some (.int .i64 t) := by simpa using hat 0 _ rfl
        obtain ⟨ht1, ht2⟩ := made_has HO.out (List.mem_of_getElem? hp)
        have HTT := Lib.hid (fun w => tag_any b t w)
        rw [ht1] at HTT
        have HHS := rhas_any ⟨(ja, jb), jt, jd⟩ _ (1 + 1024 * b + t) wr (HX3.out.below hbr) (by have := HTG.out.2; simp only; omega)
        rw [ht2] at HHS
        unfold recV at HHS
        simp only at HHS
        have HHS := Lib.hid HHS
        have HW2 := Lib.hid (show wrap64 ((k : Int) + 1) = (k : Int) + 1 from IntWalk.wrap64_in _ (by have := HTG.out.1; omega))
        have HLT := Lib.hid hlt
        clear hbr hk3 hp hat ht1 ht2 hlt
        go_wp2_with fail
        refine (HTT.out _).mono ?_
        rintro e w5 ⟨rfl, hw⟩
        rw [hw]
        clear hw
        go_wp2_with fail
        refine HHS.out.mono ?_
        rintro e w6 ⟨rfl, hb6⟩
        have HB6 := Lib.hid (HBR.out.trans (hb6.mono HBR.out.size))
        clear hb6 q1 q2 l1 c0
        go_wp2_with fail
        go_roundw
        case rel => exact ⟨k + 1, (by first | rfl | (rw [HW2.out]; rfl)), HLT.out, HB6.out⟩
        case measure => first | exact rt_meas HW2.out HLT.out | exact rt_meas2 HLT.out
      · have ht : decide ((k : Int) < (tags.length : Int)) = false := by simpa using hlt
        have ht2 : decide (tags.length ≤ k) = true := by simp; omega
        have ht3 : decide (k < tags.length) = false := by simpa using hlt
        clear hbr hk3 q1 q2 l1
        go_wp2_with fail
        refine (balive_any _).mono ?_
        rintro e w5 ⟨rfl, hb5⟩
        have hb35 := HBR.out.trans (hb5.mono HBR.out.size)
        have HB5 := Lib.hid hb35
        have HEQ := requal_any tags tags _ _ w5 (HL3.out.below hb35) (HV3.out.below hb35) (by have := HTG.out.1; omega)
        rw [show decide (tags = tags) = true from decide_eq_true rfl] at HEQ
        have HEQ := Lib.hid HEQ
        clear hb5 hb35
        go_wp2_with fail
        refine HEQ.out.mono ?_
        rintro e w6 ⟨rfl, hb6⟩
        have hb36 := HB5.out.trans (hb6.mono HB5.out.size)
        have HB6 := Lib.hid hb36
        have HHS := rhas_any ⟨(ja, jb), jt, jd⟩ _ (1 + 1024 * b) w6 (HX3.out.below hb36) (by have := HTG.out.2; simp only; omega)
        rw [(made_own HO.out).2] at HHS
        unfold recV at HHS
        simp only at HHS
        have HHS := Lib.hid HHS
        obtain ⟨q1, q2⟩ := (HK3.out.below hb36).cells
        have l1 := (HK3.out.below hb36).lt
        clear hb6 hb36 HEQ
        go_wp2_with fail
        refine HHS.out.mono ?_
        rintro e w7 ⟨rfl, hb7⟩
        have hb37 := HB6.out.trans (hb7.mono HB6.out.size)
        have HB7 := Lib.hid hb37
        have HRI := rright_any ⟨(ja, jb), jt, jd⟩ _ w7 (HX3.out.below hb37) (by have := HTG.out.2; simp only; omega)
        rw [HRR.out] at HRI
        unfold recV at HRI
        simp only at HRI
        have HRI := Lib.hid HRI
        clear q1 q2 l1
        obtain ⟨q1, q2⟩ := (HK3.out.below hb37).cells
        have l1 := (HK3.out.below hb37).lt
        clear hb7 hb37 HHS
        go_wp2_with fail
        refine HRI.out.mono ?_
        rintro e w8 ⟨rfl, hb8⟩
        have hb38 := HB7.out.trans (hb8.mono HB7.out.size)
        have HB8 := Lib.hid hb38
        clear q1 q2 l1
        obtain ⟨q1, q2⟩ := (HK3.out.below hb38).cells
        have l1 := (HK3.out.below hb38).lt
        obtain ⟨q3, q4⟩ := (HR3.out.below hb38).cells
        have l2 := (HR3.out.below hb38).lt
        have heq : (ja == ja && (jb == jb)) = true := by simp
        clear hb8 hb38 HRI
        go_wp2_with fail
        go_ret
        exact ⟨rfl, HB3.out.trans (HB8.out.mono HB3.out.size)⟩
/-- BookMade, as its row asks. -/
theorem made_row {v : Value} (b : Int) (tags : List Int) (p : Rc × Value) (w : World) (_ : (Lit.int .i64 b).wf = true) (hv : VRow (fun k => k < w.heap.size) 1 intO w v tags) (_ : ∀ n ∈ tags, (Lit.int .i64 n).wf = true) (hm : tags.length * 8 ≤ 140737488351232)
    (hp : VRow (fun k => k < w.heap.size) 1 intO w p.2 p.1.tags ∧ p.1.tags.length ≤ 140737488351232 ∧ p.1.data.size ≤ 140737488351232) :
    Calls Try.prog 7 #[.int .i64 b, v, .agg (recO p).toArray] w fun e w' => e = .returned (.bool true) ∧ Below w.heap.size w w' :=
  made_main b tags v p.1 p.2 w hv hp.1 (by omega)
end Go.Proofs.Ytpdibjaeopcimaa
