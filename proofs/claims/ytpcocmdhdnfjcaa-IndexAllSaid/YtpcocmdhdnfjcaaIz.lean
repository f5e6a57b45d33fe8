/- index's reference: Next. -/
import Derived.Test.YtpcocmdhdnfjcaaIy
set_option linter.unusedVariables false
set_option linter.unusedSimpArgs false
namespace Go.Proofs.Ytpcocmdhdnfjcaa
open Go.RowKit

/-- The loop of the reference's Next. -/
def NxIn (wA : World) (ys : List (It × Value)) (a : Pl) (v : Value) (wi : World) : Prop := ∃ k : Nat, v = .int .i64 (k : Int) ∧ k ≤ ys.length ∧ (∀ j p, j < k → ys[j]? = some p → lessP p.1.seq a = true) ∧ Below wA.heap.size wA wi
theorem nextD_at {l : List (It × Value)} {t : Int} {a : Pl} {ys : List (It × Value)} {k : Nat} {i : It} {tv : Value} (hy : ys = countL l t) (h : ∀ j p, j < k → ys[j]? = some p → lessP p.1.seq a = true) (hk : ys[k]? = some (i, tv)) (hi : lessP i.seq a = false) : nextD (its l) t a = some i := by
  unfold nextD
  rw [← count_its, ← hy]
  have hk2 : (its ys)[k]? = some i := by unfold its; rw [List.getElem?_map, hk]; rfl
  rw [List.find?_eq_some_iff_getElem]
  have hl := List.getElem?_eq_some_iff.1 hk2
  have hl2 := List.getElem?_eq_some_iff.1 hk
  refine ⟨by rw [hi]; rfl, k, hl.1, hl.2, fun j hj => ?_⟩
  have hj2 := h j _ hj (List.getElem?_eq_getElem (by have := hl2.1; omega))
  have e : (its ys)[j]'(by have := hl.1; omega) = (ys[j]'(by have := hl2.1; omega)).1 := by simp [its]
  rw [e, hj2]
  rfl
theorem nextD_no {l : List (It × Value)} {t : Int} {a : Pl} {ys : List (It × Value)} (hy : ys = countL l t) (h : ∀ j p, j < ys.length → ys[j]? = some p → lessP p.1.seq a = true) : nextD (its l) t a = none := by
  unfold nextD
  rw [← count_its, ← hy, List.find?_eq_none]
  intro i hi
  obtain ⟨p, hp, rfl⟩ := List.mem_map.1 hi
  obtain ⟨j, hj, rfl⟩ := List.getElem_of_mem hp
  rw [h j _ hj (List.getElem?_eq_getElem hj)]
  simp
/-- What counts, as a row that is read. -/
theorem ItsAt.count {S : Nat → Prop} {w w' : World} {v v' : Value} {l : List (It × Value)} {t : Int} {b : Nat} (h : ItsAt S w v l) (hb : Below w.heap.size w w') (hr : ORow 12 itO w' b v' (countL l t)) : ItsAt (fun _ => True) w' v' (countL l t) :=
  ⟨VRow.of_own itO_len hr (fun _ _ => trivial), fun p hp => (((h.below hb).tags p (List.mem_filter.1 hp).1)).mono fun _ _ _ => trivial⟩
/-- What the reference's Next and Prev tell. -/
def RToldPost (S : Nat → Prop) (o : Option Rw) (w : World) (e : Ending) (w' : World) : Prop :=
  ∃ tv, e = .returned (.tuple #[recV (o.getD rw0).r tv, plV (o.getD rw0).pl, .bool o.isSome]) ∧ VRow S 1 intO w' tv (o.getD rw0).r.tags ∧ Below w.heap.size w w'
theorem ItsAt.oldS {S : Nat → Prop} {w : World} {v : Value} {l : List (It × Value)} (h : ItsAt S w v l) : ItsAt (fun k => k < w.heap.size ∧ S k) w v l := ⟨h.row.mono fun _ hk h2 => ⟨hk, h2⟩, fun p hp => (h.tags p hp).mono fun _ hk h2 => ⟨hk, h2⟩⟩
attribute [local go_sem high] eqId eqSeq
set_option maxRecDepth 100000 in
set_option maxHeartbeats 16000000 in
theorem rnext_any {S : Nat → Prop} {v : Value} (l : List (It × Value)) (t : Int) (a : Pl) (w : World) (h : ItsAt S w v l) (hm : l.length ≤ 60) (htl : ∀ p ∈ l, p.1.r.tags.length ≤ 140737488351232) :
    Calls Try.prog 22 #[docV v, .int .i64 t, plV a] w (RToldPost S ((nextD (its l) t a).map rowI) w) := by
  obtain ⟨aa, ab⟩ := a
  obtain ⟨va, cap, rfl, _, _⟩ := h.row.slice
  have hb0 : Below w.heap.size w ((((w.alloc (.cells #[.slice va l.length cap] 48)).alloc (.cells #[.int .i64 aa, .int .i64 ab] 29)).alloc (.cells #[.int .i64 0, .int .i64 0, .slice none 0 0, .string ⟨#[]⟩] 34)).alloc (.cells #[.int .i64 0, .int .i64 0] 29)) := Ch.below (by (repeat (first | with_reducible assumption | with_reducible exact Ch.refl _ _ | with_reducible refine Ch.drew ?_ | with_reducible refine Ch.alloc ?_ _ | (with_reducible refine Ch.set' ?_ ?_; focus (first | (right; rfl; done) | (left; simp; done) | (left; simp; omega) | (left; omega) | (right; simp; done) | (right; simp; omega))))))
  have B1 := (((Blk.new w #[.slice va l.length cap] 48).alloc (.cells #[.int .i64 aa, .int .i64 ab] 29)).alloc (.cells #[.int .i64 0, .int .i64 0, .slice none 0 0, .string ⟨#[]⟩] 34)).alloc (.cells #[.int .i64 0, .int .i64 0] 29)
  have B2 := ((Blk.new (w.alloc (.cells #[.slice va l.length cap] 48)) #[.int .i64 aa, .int .i64 ab] 29).alloc (.cells #[.int .i64 0, .int .i64 0, .slice none 0 0, .string ⟨#[]⟩] 34)).alloc (.cells #[.int .i64 0, .int .i64 0] 29)
  have B3 := (Blk.new ((w.alloc (.cells #[.slice va l.length cap] 48)).alloc (.cells #[.int .i64 aa, .int .i64 ab] 29)) #[.int .i64 0, .int .i64 0, .slice none 0 0, .string ⟨#[]⟩] 34).alloc (.cells #[.int .i64 0, .int .i64 0] 29)
  have B4 := Blk.new (((w.alloc (.cells #[.slice va l.length cap] 48)).alloc (.cells #[.int .i64 aa, .int .i64 ab] 29)).alloc (.cells #[.int .i64 0, .int .i64 0, .slice none 0 0, .string ⟨#[]⟩] 34)) #[.int .i64 0, .int .i64 0] 29
  rw [show (w.alloc (.cells #[.slice va l.length cap] 48)).heap.size = w.heap.size + 1 by simp] at B2
  rw [show ((w.alloc (.cells #[.slice va l.length cap] 48)).alloc (.cells #[.int .i64 aa, .int .i64 ab] 29)).heap.size = w.heap.size + 1 + 1 by simp] at B3
  rw [show (((w.alloc (.cells #[.slice va l.length cap] 48)).alloc (.cells #[.int .i64 aa, .int .i64 ab] 29)).alloc (.cells #[.int .i64 0, .int .i64 0, .slice none 0 0, .string ⟨#[]⟩] 34)).heap.size = w.heap.size + 1 + 1 + 1 by simp] at B4
  obtain ⟨w0, hw0⟩ : ∃ w0, w0 = ((((w.alloc (.cells #[.slice va l.length cap] 48)).alloc (.cells #[.int .i64 aa, .int .i64 ab] 29)).alloc (.cells #[.int .i64 0, .int .i64 0, .slice none 0 0, .string ⟨#[]⟩] 34)).alloc (.cells #[.int .i64 0, .int .i64 0] 29)) := ⟨_, rfl⟩
  rw [← hw0] at hb0 B1 B2 B3 B4
  have hv0 := h.oldS.below hb0
  have HV := Lib.hid hv0
  have HCO := Lib.hid (rcounting_any l t w0 hv0 hm htl)
  have HB := Lib.hid hb0
  have HB1 := Lib.hid B1
  have HB2 := Lib.hid B2
  have HB3 := Lib.hid B3
  have HB4 := Lib.hid B4
  have HM := Lib.hid hm
  unfold docV at HCO
  unfold docV plV
  simp only
  clear h hm hb0 B1 B2 B3 B4 hv0 htl
  obtain ⟨q1, q2⟩ := HB1.out.cells
  have l1 := HB1.out.lt
  go_enter Try.func22, Try.ntmps22
  go_wp2_with fail
  rw [← hw0]
  clear hw0
  refine HCO.out.mono ?_
  rintro e w1 ⟨⟨v', rfl, hrow⟩, hb1⟩
  have HIT := Lib.hid (HV.out.count hb1 hrow)
  have HYL := Lib.hid (show (countL l t).length ≤ 60 from Nat.le_trans (List.length_filter_le _ _) HM.out)
  have HC1 := Lib.hid hb1
  have HOWN := Lib.hid (fun g e => (hrow.own (g := g) e).1)
  have HTG := Lib.hid (show ∀ p ∈ countL l t, VRow (fun k => k < w.heap.size ∧ S k) 1 intO w1 p.2 p.1.r.tags from fun p hp => (HV.out.below hb1).tags p (List.mem_filter.1 hp).1)
  obtain ⟨ya, ycap, rfl, _, _⟩ := hrow.slice
  obtain ⟨ys, hys⟩ : ∃ ys, ys = countL l t := ⟨_, rfl⟩
  rw [← hys] at HIT HYL HOWN HTG ⊢
  have HYS := Lib.hid hys
  clear hrow hb1 hys HCO q1 q2 l1
  go_wp2_with fail
  go_loopw [10] (fun v wi => NxIn w1 ys (aa, ab) v wi) (fun i _ => ys.length - (intOf i).toNat)
  case atStart => exact ⟨0, rfl, Nat.zero_le _, fun j p hj _ => absurd hj (Nat.not_lt_zero _), Below.refl _ _⟩
  case round =>
    obtain ⟨k, rfl, hk, hno, hbr⟩ := hrel
    have HNO := Lib.hid hno
    have HBR := Lib.hid hbr
    have hb01 := HC1.out.trans (hbr.mono HC1.out.size)
    have HBG := Lib.hid hb01
    have HI2 := Lib.hid (HIT.out.below hbr)
    have HB2r := Lib.hid (HB2.out.below hb01)
    have HB3r := Lib.hid (HB3.out.below hb01)
    have HB4r := Lib.hid (HB4.out.below hb01)
    clear hno hbr hb01
    by_cases hlt : k < ys.length
    · have ht : decide ((k : Int) < (ys.length : Int)) = true := by simpa using hlt
      obtain ⟨⟨i, tv⟩, hp⟩ : ∃ p, ys[k]? = some p := ⟨_, List.getElem?_eq_getElem hlt⟩
      obtain ⟨g, off, cap2, e, hg, hS, htv, c0, c1, c2, c3, c4, c5, c6, c7, c8, c9, c10, c11⟩ := HI2.out.item hp
      cases e
      have HP := Lib.hid hp
      have HTV := Lib.hid ((HTG.out _ (List.mem_of_getElem? hp)).below HBR.out)
      have hgb := HOWN.out g rfl
      have hg4 := HB4.out.lt
      have HGN := Lib.hid (show (¬ (g = w.heap.size + 1 + 1)) ∧ ¬ (g = w.heap.size + 1 + 1 + 1) from ⟨by omega, by omega⟩)
      obtain ⟨ta, tcap, hte, _, _⟩ := htv.slice
      subst hte
      have HW2 := Lib.hid (show wrap64 ((k : Int) + 1) = (k : Int) + 1 from IntWalk.wrap64_in _ (by have := HYL.out; omega))
      have HLT := Lib.hid hlt
      have d1 := fun y : Later wr => (y.h.cell (cell_spot c1).2).trans c1
      have d2 := fun y : Later wr => (y.h.cell (cell_spot c2).2).trans c2
      have C := Lib.hid (fun w' (hb : Below wr.heap.size wr w') => And.intro ((hb.cell (cell_spot c1).2).trans c1) (And.intro ((hb.cell (cell_spot c2).2).trans c2) (And.intro ((hb.cell (cell_spot c3).2).trans c3) (And.intro ((hb.cell (cell_spot c4).2).trans c4) (And.intro ((hb.cell (cell_spot c5).2).trans c5) ((hb.cell (cell_spot c6).2).trans c6))))))
      obtain ⟨q1, q2⟩ := HB2r.out.laterCells
      obtain ⟨lb, hlb⟩ : ∃ b, lessP i.seq (aa, ab) = b := ⟨_, rfl⟩
      have HLS := Lib.hid (fun y : Later wr => rless_any i.seq (aa, ab) y.w)
      rw [hlb] at HLS
      unfold plV at HLS
      have HLB := Lib.hid hlb
      clear hp htv c0 c1 c2 c3 c4 c5 c6 c7 c8 c9 c10 c11 hlt hlb hgb hg4
      go_wp2_with fail
      refine wp_region_later (by kernel_rfl) (by kernel_rfl) ?_
      repeat (go_big_quiet_step (first | (go_at_call 39; exact Calls.later (HLS.out _))))
      refine wpQuiet_nil ?_
      rintro _ ⟨y, rfl⟩
      have HBY := Lib.hid (HBR.out.trans (y.h.mono HBR.out.size))
      have HBGY := Lib.hid (HBG.out.trans (y.h.mono HBG.out.size))
      have HB3y := Lib.hid (HB3r.out.below y.h)
      have HB4y := Lib.hid (HB4r.out.below y.h)
      have HTVy := Lib.hid (HTV.out.below y.h)
      obtain ⟨k1, k2, k3, k4, k5, k6⟩ := C.out y.w y.h
      have hgw : g < y.w.heap.size := Nat.lt_of_lt_of_le hg y.h.size
      obtain ⟨w3, hw3⟩ : ∃ w3, w3 = y.w := ⟨_, rfl⟩
      rw [← hw3] at HBY HBGY HB3y HB4y HTVy k1 k2 k3 k4 k5 k6 hgw ⊢
      clear hw3 d1 d2 q1 q2 C
      cases lb with
      | true =>
        have HX := Lib.hid (show ∀ j p, j < k + 1 → ys[j]? = some p → lessP p.1.seq (aa, ab) = true from fun j u hj hu => by
          by_cases hjk : j = k
          · subst hjk
            rw [HP.out] at hu
            cases hu
            exact HLB.out
          · exact HNO.out j u (by omega) hu)
        go_wp2_with fail
        go_roundw
        case rel => exact ⟨k + 1, (by first | rfl | (rw [HW2.out]; rfl)), HLT.out, HX.out, HBY.out⟩
        case measure => first | exact rt_meas HW2.out HLT.out | exact rt_meas2 HLT.out
      | false =>
        have HX := Lib.hid (nextD_at HYS.out HNO.out HP.out HLB.out)
        obtain ⟨q3, q4⟩ := HB3y.out.cells
        obtain ⟨q5, q6⟩ := HB4y.out.cells
        have l3 := HB3y.out.lt
        have l4 := HB4y.out.lt
        obtain ⟨hgn1, hgn2⟩ := HGN.out
        obtain ⟨kind, ⟨sa, sb⟩, ⟨⟨ia, ib⟩, tags, data⟩, tag, ⟨ua, ub⟩, ⟨ea, eb⟩⟩ := i
        simp only at k1 k2 k3 k4 k5 k6 HTVy
        have n1 : w.heap.size + 1 + 1 ≠ w.heap.size + 1 + 1 + 1 := by omega
        have n2 : w.heap.size + 1 + 1 + 1 ≠ w.heap.size + 1 + 1 := by omega
        have HBT := Lib.hid (HB.out.trans (HBGY.out.mono HB.out.size))
        go_wp2_with fail
        go_region
        all_goals
          go_wp2_with fail
          obtain ⟨f1, f2⟩ := (show Blk _ (w.heap.size + 1 + 1) #[.int .i64 ia, .int .i64 ib, .slice ta tags.length tcap, .string data] 34 from ((((((HB3y.out.set 0 (.int .i64 ia)).set 1 (.int .i64 ib)).set 2 (.slice ta tags.length tcap)).set 3 (.string data)).far (p := ⟨w.heap.size + 1 + 1 + 1, 0, none⟩) n1 (.int .i64 sa)).far (p := ⟨w.heap.size + 1 + 1 + 1, 1, none⟩) n1 (.int .i64 sb))).cells
          obtain ⟨f3, f4⟩ := (show Blk _ (w.heap.size + 1 + 1 + 1) #[.int .i64 sa, .int .i64 sb] 29 from ((((((HB4y.out.far (p := ⟨w.heap.size + 1 + 1, 0, none⟩) n2 (.int .i64 ia)).far (p := ⟨w.heap.size + 1 + 1, 1, none⟩) n2 (.int .i64 ib)).far (p := ⟨w.heap.size + 1 + 1, 2, none⟩) n2 (.slice ta tags.length tcap)).far (p := ⟨w.heap.size + 1 + 1, 3, none⟩) n2 (.string data)).set 0 (.int .i64 sa)).set 1 (.int .i64 sb))).cells
          refine bodyPost_ret (v := .tuple #[recV ⟨(ia, ib), tags, data⟩ (.slice ta tags.length tcap), plV (sa, sb), .bool true]) (by simp [results, Try.results22, go_sem, f1, f3, recV, plV]) rfl ?_
          rw [HX.out]
          refine ⟨.slice ta tags.length tcap, rfl, ?_, ?_⟩
          · refine ((HTVy.out.ch (S' := fun k => w.heap.size ≤ k) (w1 := _) ?_ (fun k hk e => by have := hk.1; omega)).mono (fun k _ hk => hk.2))
            exact (((((((Ch.refl _ w3).set (p := ⟨w.heap.size + 1 + 1, 0, none⟩) (.inr (by simp; omega)) _).set (p := ⟨w.heap.size + 1 + 1, 1, none⟩) (.inr (by simp; omega)) _).set (p := ⟨w.heap.size + 1 + 1, 2, none⟩) (.inr (by simp; omega)) _).set (p := ⟨w.heap.size + 1 + 1, 3, none⟩) (.inr (by simp; omega)) _).set (p := ⟨w.heap.size + 1 + 1 + 1, 0, none⟩) (.inr (by simp; omega)) _).set (p := ⟨w.heap.size + 1 + 1 + 1, 1, none⟩) (.inr (by simp; omega)) _).drew
          · have hcw : Ch (fun k => w.heap.size ≤ k) w3 _ := (((((((Ch.refl _ w3).set (p := ⟨w.heap.size + 1 + 1, 0, none⟩) (.inr (by simp; omega)) (.int .i64 ia)).set (p := ⟨w.heap.size + 1 + 1, 1, none⟩) (.inr (by simp; omega)) (.int .i64 ib)).set (p := ⟨w.heap.size + 1 + 1, 2, none⟩) (.inr (by simp; omega)) (.slice ta tags.length tcap)).set (p := ⟨w.heap.size + 1 + 1, 3, none⟩) (.inr (by simp; omega)) (.string data)).set (p := ⟨w.heap.size + 1 + 1 + 1, 0, none⟩) (.inr (by simp; omega)) (.int .i64 sa)).set (p := ⟨w.heap.size + 1 + 1 + 1, 1, none⟩) (.inr (by simp; omega)) (.int .i64 sb)).drew
            exact Ch.below ((Ch.of_below (fun _ => False) HBT.out).step hcw (fun j hj e => by omega))
    · have ht : decide ((k : Int) < (ys.length : Int)) = false := by simpa using hlt
      have ht2 : decide (ys.length ≤ k) = true := by simp; omega
      have ht3 : decide (k < ys.length) = false := by simpa using hlt
      have HX := Lib.hid (nextD_no HYS.out (fun j p hj hp => HNO.out j p (by omega) hp))
      obtain ⟨q3, q4⟩ := HB3r.out.cells
      obtain ⟨q5, q6⟩ := HB4r.out.cells
      have l3 := HB3r.out.lt
      have l4 := HB4r.out.lt
      go_wp2_with fail
      have HBT := Lib.hid (HB.out.trans (HBG.out.mono HB.out.size))
      have n1 : w.heap.size + 1 + 1 ≠ w.heap.size + 1 + 1 + 1 := by omega
      have n2 : w.heap.size + 1 + 1 + 1 ≠ w.heap.size + 1 + 1 := by omega
      obtain ⟨f1, f2⟩ := (show Blk _ (w.heap.size + 1 + 1) #[.int .i64 0, .int .i64 0, .slice none 0 0, .string ⟨#[]⟩] 34 from ((((((HB3r.out.set 0 (.int .i64 0)).set 1 (.int .i64 0)).set 2 (.slice none 0 0)).set 3 (.string ⟨#[]⟩)).far (p := ⟨w.heap.size + 1 + 1 + 1, 0, none⟩) n1 (.int .i64 0)).far (p := ⟨w.heap.size + 1 + 1 + 1, 1, none⟩) n1 (.int .i64 0))).cells
      obtain ⟨f3, f4⟩ := (show Blk _ (w.heap.size + 1 + 1 + 1) #[.int .i64 0, .int .i64 0] 29 from ((((((HB4r.out.far (p := ⟨w.heap.size + 1 + 1, 0, none⟩) n2 (.int .i64 0)).far (p := ⟨w.heap.size + 1 + 1, 1, none⟩) n2 (.int .i64 0)).far (p := ⟨w.heap.size + 1 + 1, 2, none⟩) n2 (.slice none 0 0)).far (p := ⟨w.heap.size + 1 + 1, 3, none⟩) n2 (.string ⟨#[]⟩)).set 0 (.int .i64 0)).set 1 (.int .i64 0))).cells
      refine bodyPost_ret (v := .tuple #[recV ⟨(0, 0), [], ⟨#[]⟩⟩ (.slice none 0 0), plV (0, 0), .bool false]) (by simp [results, Try.results22, go_sem, f1, f3, recV, plV]) rfl ?_
      rw [HX.out]
      refine ⟨.slice none 0 0, rfl, VRow.nil _ _, ?_⟩
      have hcw : Ch (fun k => w.heap.size ≤ k) wr _ := ((((((Ch.refl _ wr).set (p := ⟨w.heap.size + 1 + 1, 0, none⟩) (.inr (by simp; omega)) (.int .i64 0)).set (p := ⟨w.heap.size + 1 + 1, 1, none⟩) (.inr (by simp; omega)) (.int .i64 0)).set (p := ⟨w.heap.size + 1 + 1, 2, none⟩) (.inr (by simp; omega)) (.slice none 0 0)).set (p := ⟨w.heap.size + 1 + 1, 3, none⟩) (.inr (by simp; omega)) (.string ⟨#[]⟩)).set (p := ⟨w.heap.size + 1 + 1 + 1, 0, none⟩) (.inr (by simp; omega)) (.int .i64 0)).set (p := ⟨w.heap.size + 1 + 1 + 1, 1, none⟩) (.inr (by simp; omega)) (.int .i64 0)
      exact Ch.below ((Ch.of_below (fun _ => False) HBT.out).step hcw (fun j hj e => by omega))
end Go.Proofs.Ytpcocmdhdnfjcaa
