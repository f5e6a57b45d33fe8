/- index: Next, Prev, Tail, Len. -/
import Derived.Test.YtpdibjaeopcimaaIc
set_option linter.unusedVariables false
set_option linter.unusedSimpArgs false
namespace Go.Proofs.Ytpdibjaeopcimaa
open Go.RowKit

def at? (rl : List Rw) (k : Int) : Option Rw := if k < 0 then none else rl[k.toNat]?
theorem told_at {G : Nat → Prop} {x : Nat} {st : XSt} {lv : Value} {nums : List Nat} {rl : List Rw} (k : Int) (w : World) (h : Ix G w x st) (hl : VRow (fun _ => True) 1 natO w lv nums) (hn : NumsOf st nums rl) (hsm : ∀ r ∈ rl, r.r.tags.length ≤ 8) :
    Calls Try.prog 55 #[.pointer (some ⟨x, 0, none⟩), lv, .int .i64 k] w (ToldPost (at? rl k) w) := by
  unfold at?
  by_cases h0 : k < 0
  · rw [if_pos h0]
    obtain ⟨a, cap, rfl, _, _⟩ := hl.slice
    exact told_none k w (.inl h0)
  · rw [if_neg h0]
    cases hr : rl[k.toNat]? with
    | none =>
      obtain ⟨a, cap, rfl, _, _⟩ := hl.slice
      have := List.getElem?_eq_none_iff.1 hr
      exact told_none k w (.inr (by rw [hn.1]; omega))
    | some r =>
      obtain ⟨n, h1, h2⟩ := hn.2 _ _ hr
      have := told_some w h hl h1 h2 (by have := hsm r (List.mem_of_getElem? hr); omega)
      rwa [show ((k.toNat : Nat) : Int) = k by omega] at this

theorem good_small {st : XSt} (h : GoodX st) (t : Int) : ∀ r ∈ countX st t, r.r.tags.length ≤ 8 := fun r hr => (h.small r ((List.mem_filter.1 ((List.mem_filter.1 hr).1)).1)).1
theorem count_len (st : XSt) (t : Int) : (countX st t).length ≤ st.rows.length := Nat.le_trans (List.length_filter_le _ _) (List.length_filter_le _ _)

def nextX (st : XSt) (t : Int) (a : Pl) : Option Rw := at? (countX st t) (firstN (countX st t) a : Nat)
def prevX (st : XSt) (t : Int) (a : Pl) : Option Rw := at? (countX st t) ((firstN (countX st t) a : Nat) - 1)
def tailX (st : XSt) (t : Int) : Option Rw := at? (countX st t) (((countX st t).length : Nat) - 1)

set_option maxRecDepth 100000 in
set_option maxHeartbeats 4000000 in
theorem xnext_any {G : Nat → Prop} {x : Nat} {st : XSt} (t : Int) (a : Pl) (w : World) (h : Ix G w x st) (hg : GoodX st) (hm : st.rows.length ≤ 4194304) :
    Calls Try.prog 44 #[.pointer (some ⟨x, 0, none⟩), .int .i64 t, plV a] w (ToldPost (nextX st t a) w) := by
  have hb0 : Below w.heap.size w (((w.alloc (.cells #[.int .i64 a.1, .int .i64 a.2] 39)).alloc (.cells #[.int .i64 0, .int .i64 0, .slice none 0 0, .string ⟨#[]⟩] 26)).alloc (.cells #[.int .i64 0, .int .i64 0] 39)) := Ch.below (by (repeat (first | with_reducible assumption | with_reducible exact Ch.refl _ _ | with_reducible refine Ch.drew ?_ | with_reducible refine Ch.alloc ?_ _ | (with_reducible refine Ch.set' ?_ ?_; focus (first | (right; rfl; done) | (left; simp; done) | (left; simp; omega) | (left; omega) | (right; simp; done) | (right; simp; omega))))))
  have B1 := ((Blk.new w #[.int .i64 a.1, .int .i64 a.2] 39).alloc (.cells #[.int .i64 0, .int .i64 0, .slice none 0 0, .string ⟨#[]⟩] 26)).alloc (.cells #[.int .i64 0, .int .i64 0] 39)
  have B2 := (Blk.new (w.alloc (.cells #[.int .i64 a.1, .int .i64 a.2] 39)) #[.int .i64 0, .int .i64 0, .slice none 0 0, .string ⟨#[]⟩] 26).alloc (.cells #[.int .i64 0, .int .i64 0] 39)
  have B3 := (Blk.new ((w.alloc (.cells #[.int .i64 a.1, .int .i64 a.2] 39)).alloc (.cells #[.int .i64 0, .int .i64 0, .slice none 0 0, .string ⟨#[]⟩] 26)) #[.int .i64 0, .int .i64 0] 39)
  rw [show (w.alloc (.cells #[.int .i64 a.1, .int .i64 a.2] 39)).heap.size = w.heap.size + 1 by simp] at B2
  rw [show ((w.alloc (.cells #[.int .i64 a.1, .int .i64 a.2] 39)).alloc (.cells #[.int .i64 0, .int .i64 0, .slice none 0 0, .string ⟨#[]⟩] 26)).heap.size = w.heap.size + 1 + 1 by simp] at B3
  obtain ⟨w0, hw0⟩ : ∃ w0, w0 = (((w.alloc (.cells #[.int .i64 a.1, .int .i64 a.2] 39)).alloc (.cells #[.int .i64 0, .int .i64 0, .slice none 0 0, .string ⟨#[]⟩] 26)).alloc (.cells #[.int .i64 0, .int .i64 0] 39)) := ⟨_, rfl⟩
  rw [← hw0] at hb0 B1 B2 B3
  have HX := Lib.hid (h.below' hb0)
  have HC := Lib.hid (counting_any t w0 HX.out hg hm)
  have HF := Lib.hid (fun w' lv nums (hb : Below w0.heap.size w0 w') (hl : VRow (fun _ => True) 1 natO w' lv nums) (hn : NumsOf st nums (countX st t)) => first_any a w' (HX.out.below' hb) hl hn (good_count hg t) (Nat.le_trans (count_len st t) hm))
  have HT := Lib.hid (fun w' lv nums k (hb : Below w0.heap.size w0 w') (hl : VRow (fun _ => True) 1 natO w' lv nums) (hn : NumsOf st nums (countX st t)) => told_at k w' (HX.out.below' hb) hl hn (good_small hg t))
  have HB := Lib.hid hb0
  have HB1 := Lib.hid B1
  have HB2 := Lib.hid B2
  have HB3 := Lib.hid B3
  have l2 := B2.lt
  have l3 := B3.lt
  unfold nextX
  obtain ⟨rl, hrl⟩ : ∃ rl, countX st t = rl := ⟨_, rfl⟩
  rw [hrl] at HF HT ⊢
  unfold CountPost at HC
  rw [hrl] at HC
  obtain ⟨a1, a2⟩ := a
  unfold plV at HF ⊢
  simp only at hw0 HF HB1 ⊢
  clear h hg hm hb0 B1 B2 B3 hrl
  go_enter Try.func44, Try.ntmps44
  go_wp2_with fail
  rw [← hw0]
  clear hw0
  refine HC.out.mono ?_
  rintro e w1 ⟨v, nums, rfl, hv, hn, hb1⟩
  have HN := Lib.hid hn
  have HV := Lib.hid hv
  obtain ⟨va, cap, rfl, _, _⟩ := hv.slice
  obtain ⟨q1, q2⟩ := (HB1.out.below hb1).cells
  have HBA := Lib.hid hb1
  clear hn hv hb1 HC
  go_wp2_with fail
  refine (HF.out w1 _ nums HBA.out HV.out HN.out).mono ?_
  rintro e w2 ⟨rfl, hb2⟩
  have HBB := Lib.hid (HBA.out.trans (hb2.mono HBA.out.size))
  have HV2 := Lib.hid (HV.out.below hb2)
  clear hb2 q1 q2 HV HF
  go_wp2_with fail
  refine (HT.out w2 _ nums _ HBB.out HV2.out HN.out).mono ?_
  rintro e w3 ⟨tv, rfl, htv, hb3⟩
  have HBC := Lib.hid (HBB.out.trans (hb3.mono HBB.out.size))
  obtain ⟨ta, tcap, rfl, _, _⟩ := htv.slice
  have hs1 := HBB.out.size
  have hs0 := HB.out.size
  have HTV := Lib.hid (htv.mono (S' := fun k => w0.heap.size ≤ k) (fun k _ hk => by omega))
  obtain ⟨z3, z4⟩ := (HB2.out.below HBC.out).cells
  obtain ⟨z5, z6⟩ := (HB3.out.below HBC.out).cells
  have HE1 := Lib.hid (HB2.out.below HBC.out)
  have HE2 := Lib.hid (HB3.out.below HBC.out)
  have HCB := Lib.hid (Ch.of_below (fun _ => False) (HB.out.trans (HBC.out.mono HB.out.size)))
  obtain ⟨o, ho⟩ : ∃ o, at? rl (firstN rl (a1, a2) : Nat) = o := ⟨_, rfl⟩
  have HAO := Lib.hid ho
  have n1 : w.heap.size + 1 ≠ w.heap.size + 1 + 1 := by omega
  have n2 : w.heap.size + 1 + 1 ≠ w.heap.size + 1 := by omega
  rw [ho] at HTV ⊢
  obtain ⟨b, hbo⟩ : ∃ b, o.isSome = b := ⟨_, rfl⟩
  have HO := Lib.hid hbo
  obtain ⟨⟨⟨pa, pb⟩, ⟨⟨ia, ib⟩, tags, data⟩⟩, hgo⟩ : ∃ r, o.getD rw0 = r := ⟨_, rfl⟩
  have HG := Lib.hid hgo
  rw [hgo] at HTV ⊢
  rw [hbo]
  unfold recV plV
  simp only at HTV ⊢
  clear htv hb3 HT HBB HV2 ho hbo hgo HBA
  go_wp2_with fail
  obtain ⟨f1, f2⟩ := (show Blk _ (w.heap.size + 1) #[.int .i64 ia, .int .i64 ib, .slice ta tags.length tcap, .string data] 26 from ((((((HE1.out.set 0 (.int .i64 ia)).set 1 (.int .i64 ib)).set 2 (.slice ta tags.length tcap)).set 3 (.string data)).far (p := ⟨w.heap.size + 1 + 1, 0, none⟩) n1 (.int .i64 pa)).far (p := ⟨w.heap.size + 1 + 1, 1, none⟩) n1 (.int .i64 pb))).cells
  obtain ⟨f3, f4⟩ := (show Blk _ (w.heap.size + 1 + 1) #[.int .i64 pa, .int .i64 pb] 39 from ((((((HE2.out.far (p := ⟨w.heap.size + 1, 0, none⟩) n2 (.int .i64 ia)).far (p := ⟨w.heap.size + 1, 1, none⟩) n2 (.int .i64 ib)).far (p := ⟨w.heap.size + 1, 2, none⟩) n2 (.slice ta tags.length tcap)).far (p := ⟨w.heap.size + 1, 3, none⟩) n2 (.string data)).set 0 (.int .i64 pa)).set 1 (.int .i64 pb))).cells
  refine bodyPost_ret (v := .tuple #[recV ⟨(ia, ib), tags, data⟩ (.slice ta tags.length tcap), plV (pa, pb), .bool b]) (by simp [results, Try.results44, go_sem, f1, f3, recV, plV]) rfl ⟨.slice ta tags.length tcap, by rw [HAO.out, HG.out, HO.out], ?_, ?_⟩
  · rw [HAO.out, HG.out]
    refine ((HTV.out.ch (S' := fun k => k = w.heap.size + 1 ∨ k = w.heap.size + 1 + 1) (w1 := _) ?_ (fun k hk e => by omega)).mono (fun k _ hk => by omega))
    exact ((((((Ch.refl _ w3).set (p := ⟨w.heap.size + 1, 0, none⟩) (.inr (.inl rfl)) _).set (p := ⟨w.heap.size + 1, 1, none⟩) (.inr (.inl rfl)) _).set (p := ⟨w.heap.size + 1, 2, none⟩) (.inr (.inl rfl)) _).set (p := ⟨w.heap.size + 1, 3, none⟩) (.inr (.inl rfl)) _).set (p := ⟨w.heap.size + 1 + 1, 0, none⟩) (.inr (.inr rfl)) _).set (p := ⟨w.heap.size + 1 + 1, 1, none⟩) (.inr (.inr rfl)) _
  · exact ((((((HCB.out.set (p := ⟨w.heap.size + 1, 0, none⟩) (.inl (by simp)) _).set (p := ⟨w.heap.size + 1, 1, none⟩) (.inl (by simp)) _).set (p := ⟨w.heap.size + 1, 2, none⟩) (.inl (by simp)) _).set (p := ⟨w.heap.size + 1, 3, none⟩) (.inl (by simp)) _).set (p := ⟨w.heap.size + 1 + 1, 0, none⟩) (.inl (by simp; omega)) _).set (p := ⟨w.heap.size + 1 + 1, 1, none⟩) (.inl (by simp; omega)) _).below

set_option maxRecDepth 100000 in
set_option maxHeartbeats 4000000 in
theorem xprev_any {G : Nat → Prop} {x : Nat} {st : XSt} (t : Int) (a : Pl) (w : World) (h : Ix G w x st) (hg : GoodX st) (hm : st.rows.length ≤ 4194304) :
    Calls Try.prog 46 #[.pointer (some ⟨x, 0, none⟩), .int .i64 t, plV a] w (ToldPost (prevX st t a) w) := by
  have hb0 : Below w.heap.size w (((w.alloc (.cells #[.int .i64 a.1, .int .i64 a.2] 39)).alloc (.cells #[.int .i64 0, .int .i64 0, .slice none 0 0, .string ⟨#[]⟩] 26)).alloc (.cells #[.int .i64 0, .int .i64 0] 39)) := Ch.below (by (repeat (first | with_reducible assumption | with_reducible exact Ch.refl _ _ | with_reducible refine Ch.drew ?_ | with_reducible refine Ch.alloc ?_ _ | (with_reducible refine Ch.set' ?_ ?_; focus (first | (right; rfl; done) | (left; simp; done) | (left; simp; omega) | (left; omega) | (right; simp; done) | (right; simp; omega))))))
  have B1 := ((Blk.new w #[.int .i64 a.1, .int .i64 a.2] 39).alloc (.cells #[.int .i64 0, .int .i64 0, .slice none 0 0, .string ⟨#[]⟩] 26)).alloc (.cells #[.int .i64 0, .int .i64 0] 39)
  have B2 := (Blk.new (w.alloc (.cells #[.int .i64 a.1, .int .i64 a.2] 39)) #[.int .i64 0, .int .i64 0, .slice none 0 0, .string ⟨#[]⟩] 26).alloc (.cells #[.int .i64 0, .int .i64 0] 39)
  have B3 := (Blk.new ((w.alloc (.cells #[.int .i64 a.1, .int .i64 a.2] 39)).alloc (.cells #[.int .i64 0, .int .i64 0, .slice none 0 0, .string ⟨#[]⟩] 26)) #[.int .i64 0, .int .i64 0] 39)
  rw [show (w.alloc (.cells #[.int .i64 a.1, .int .i64 a.2] 39)).heap.size = w.heap.size + 1 by simp] at B2
  rw [show ((w.alloc (.cells #[.int .i64 a.1, .int .i64 a.2] 39)).alloc (.cells #[.int .i64 0, .int .i64 0, .slice none 0 0, .string ⟨#[]⟩] 26)).heap.size = w.heap.size + 1 + 1 by simp] at B3
  obtain ⟨w0, hw0⟩ : ∃ w0, w0 = (((w.alloc (.cells #[.int .i64 a.1, .int .i64 a.2] 39)).alloc (.cells #[.int .i64 0, .int .i64 0, .slice none 0 0, .string ⟨#[]⟩] 26)).alloc (.cells #[.int .i64 0, .int .i64 0] 39)) := ⟨_, rfl⟩
  rw [← hw0] at hb0 B1 B2 B3
  have HX := Lib.hid (h.below' hb0)
  have HC := Lib.hid (counting_any t w0 HX.out hg hm)
  have HF := Lib.hid (fun w' lv nums (hb : Below w0.heap.size w0 w') (hl : VRow (fun _ => True) 1 natO w' lv nums) (hn : NumsOf st nums (countX st t)) => first_any a w' (HX.out.below' hb) hl hn (good_count hg t) (Nat.le_trans (count_len st t) hm))
  have HT := Lib.hid (fun w' lv nums k (hb : Below w0.heap.size w0 w') (hl : VRow (fun _ => True) 1 natO w' lv nums) (hn : NumsOf st nums (countX st t)) => told_at k w' (HX.out.below' hb) hl hn (good_small hg t))
  have HB := Lib.hid hb0
  have HB1 := Lib.hid B1
  have HB2 := Lib.hid B2
  have HB3 := Lib.hid B3
  have l2 := B2.lt
  have l3 := B3.lt
  unfold prevX
  have hfl : firstN (countX st t) a ≤ 4194304 := Nat.le_trans (firstN_le _ _) (Nat.le_trans (count_len st t) hm)
  obtain ⟨rl, hrl⟩ : ∃ rl, countX st t = rl := ⟨_, rfl⟩
  rw [hrl] at HF HT hfl ⊢
  unfold CountPost at HC
  rw [hrl] at HC
  obtain ⟨a1, a2⟩ := a
  unfold plV at HF ⊢
  simp only at hw0 HF HB1 ⊢
  have HFL := Lib.hid hfl
  clear hfl
  clear h hg hm hb0 B1 B2 B3 hrl
  go_enter Try.func46, Try.ntmps46
  go_wp2_with fail
  rw [← hw0]
  clear hw0
  refine HC.out.mono ?_
  rintro e w1 ⟨v, nums, rfl, hv, hn, hb1⟩
  have HN := Lib.hid hn
  have HV := Lib.hid hv
  obtain ⟨va, cap, rfl, _, _⟩ := hv.slice
  obtain ⟨q1, q2⟩ := (HB1.out.below hb1).cells
  have HBA := Lib.hid hb1
  clear hn hv hb1 HC
  go_wp2_with fail
  refine (HF.out w1 _ nums HBA.out HV.out HN.out).mono ?_
  rintro e w2 ⟨rfl, hb2⟩
  have hwr : wrap64 ((firstN rl (a1, a2) : Nat) - 1 : Int) = (firstN rl (a1, a2) : Nat) - 1 := IntWalk.wrap64_in _ (by have := HFL.out; omega)
  have HBB := Lib.hid (HBA.out.trans (hb2.mono HBA.out.size))
  have HV2 := Lib.hid (HV.out.below hb2)
  clear hb2 q1 q2 HV HF
  go_wp2_with fail
  refine (HT.out w2 _ nums _ HBB.out HV2.out HN.out).mono ?_
  rintro e w3 ⟨tv, rfl, htv, hb3⟩
  have HBC := Lib.hid (HBB.out.trans (hb3.mono HBB.out.size))
  obtain ⟨ta, tcap, rfl, _, _⟩ := htv.slice
  have hs1 := HBB.out.size
  have hs0 := HB.out.size
  have HTV := Lib.hid (htv.mono (S' := fun k => w0.heap.size ≤ k) (fun k _ hk => by omega))
  obtain ⟨z3, z4⟩ := (HB2.out.below HBC.out).cells
  obtain ⟨z5, z6⟩ := (HB3.out.below HBC.out).cells
  have HE1 := Lib.hid (HB2.out.below HBC.out)
  have HE2 := Lib.hid (HB3.out.below HBC.out)
  have HCB := Lib.hid (Ch.of_below (fun _ => False) (HB.out.trans (HBC.out.mono HB.out.size)))
  obtain ⟨o, ho⟩ : ∃ o, at? rl ((firstN rl (a1, a2) : Nat) - 1) = o := ⟨_, rfl⟩
  have HAO := Lib.hid ho
  have n1 : w.heap.size + 1 ≠ w.heap.size + 1 + 1 := by omega
  have n2 : w.heap.size + 1 + 1 ≠ w.heap.size + 1 := by omega
  rw [ho] at HTV ⊢
  obtain ⟨b, hbo⟩ : ∃ b, o.isSome = b := ⟨_, rfl⟩
  have HO := Lib.hid hbo
  obtain ⟨⟨⟨pa, pb⟩, ⟨⟨ia, ib⟩, tags, data⟩⟩, hgo⟩ : ∃ r, o.getD rw0 = r := ⟨_, rfl⟩
  have HG := Lib.hid hgo
  rw [hgo] at HTV ⊢
  rw [hbo]
  unfold recV plV
  simp only at HTV ⊢
  clear htv hb3 HT HBB HV2 ho hbo hgo HBA
  go_wp2_with fail
  obtain ⟨f1, f2⟩ := (show Blk _ (w.heap.size + 1) #[.int .i64 ia, .int .i64 ib, .slice ta tags.length tcap, .string data] 26 from ((((((HE1.out.set 0 (.int .i64 ia)).set 1 (.int .i64 ib)).set 2 (.slice ta tags.length tcap)).set 3 (.string data)).far (p := ⟨w.heap.size + 1 + 1, 0, none⟩) n1 (.int .i64 pa)).far (p := ⟨w.heap.size + 1 + 1, 1, none⟩) n1 (.int .i64 pb))).cells
  obtain ⟨f3, f4⟩ := (show Blk _ (w.heap.size + 1 + 1) #[.int .i64 pa, .int .i64 pb] 39 from ((((((HE2.out.far (p := ⟨w.heap.size + 1, 0, none⟩) n2 (.int .i64 ia)).far (p := ⟨w.heap.size + 1, 1, none⟩) n2 (.int .i64 ib)).far (p := ⟨w.heap.size + 1, 2, none⟩) n2 (.slice ta tags.length tcap)).far (p := ⟨w.heap.size + 1, 3, none⟩) n2 (.string data)).set 0 (.int .i64 pa)).set 1 (.int .i64 pb))).cells
  refine bodyPost_ret (v := .tuple #[recV ⟨(ia, ib), tags, data⟩ (.slice ta tags.length tcap), plV (pa, pb), .bool b]) (by simp [results, Try.results46, go_sem, f1, f3, recV, plV]) rfl ⟨.slice ta tags.length tcap, by rw [HAO.out, HG.out, HO.out], ?_, ?_⟩
  · rw [HAO.out, HG.out]
    refine ((HTV.out.ch (S' := fun k => k = w.heap.size + 1 ∨ k = w.heap.size + 1 + 1) (w1 := _) ?_ (fun k hk e => by omega)).mono (fun k _ hk => by omega))
    exact ((((((Ch.refl _ w3).set (p := ⟨w.heap.size + 1, 0, none⟩) (.inr (.inl rfl)) _).set (p := ⟨w.heap.size + 1, 1, none⟩) (.inr (.inl rfl)) _).set (p := ⟨w.heap.size + 1, 2, none⟩) (.inr (.inl rfl)) _).set (p := ⟨w.heap.size + 1, 3, none⟩) (.inr (.inl rfl)) _).set (p := ⟨w.heap.size + 1 + 1, 0, none⟩) (.inr (.inr rfl)) _).set (p := ⟨w.heap.size + 1 + 1, 1, none⟩) (.inr (.inr rfl)) _
  · exact ((((((HCB.out.set (p := ⟨w.heap.size + 1, 0, none⟩) (.inl (by simp)) _).set (p := ⟨w.heap.size + 1, 1, none⟩) (.inl (by simp)) _).set (p := ⟨w.heap.size + 1, 2, none⟩) (.inl (by simp)) _).set (p := ⟨w.heap.size + 1, 3, none⟩) (.inl (by simp)) _).set (p := ⟨w.heap.size + 1 + 1, 0, none⟩) (.inl (by simp; omega)) _).set (p := ⟨w.heap.size + 1 + 1, 1, none⟩) (.inl (by simp; omega)) _).below

/-- Tail. -/
def tailV (o : Option Rw) : Value := .tuple #[plV (o.getD rw0).pl, .bool o.isSome]
set_option maxRecDepth 100000 in
set_option maxHeartbeats 4000000 in
theorem xtail_any {G : Nat → Prop} {x : Nat} {st : XSt} (t : Int) (w : World) (h : Ix G w x st) (hg : GoodX st) (hm : st.rows.length ≤ 4194304) :
    Calls Try.prog 41 #[.pointer (some ⟨x, 0, none⟩), .int .i64 t] w fun e w' => e = .returned (tailV (tailX st t)) ∧ Below w.heap.size w w' := by
  have hb0 := below1 w (.cells #[.int .i64 0, .int .i64 0] 39)
  have B1 := Blk.new w #[.int .i64 0, .int .i64 0] 39
  obtain ⟨w0, hw0⟩ : ∃ w0, w0 = w.alloc (.cells #[.int .i64 0, .int .i64 0] 39) := ⟨_, rfl⟩
  rw [← hw0] at hb0 B1
  have HX := Lib.hid (h.below' hb0)
  have HC := Lib.hid (counting_any t w0 HX.out hg hm)
  have HT := Lib.hid (fun w' lv nums k (hb : Below w0.heap.size w0 w') (hl : VRow (fun _ => True) 1 natO w' lv nums) (hn : NumsOf st nums (countX st t)) => told_at k w' (HX.out.below' hb) hl hn (good_small hg t))
  have HB := Lib.hid hb0
  have HB1 := Lib.hid B1
  have l1 := B1.lt
  have hcl := Nat.le_trans (count_len st t) hm
  unfold tailX
  obtain ⟨rl, hrl⟩ : ∃ rl, countX st t = rl := ⟨_, rfl⟩
  rw [hrl] at HT hcl ⊢
  unfold CountPost at HC
  rw [hrl] at HC
  have HCL := Lib.hid hcl
  clear h hg hm hb0 B1 hrl hcl
  go_enter Try.func41, Try.ntmps41
  go_wp2_with fail
  rw [← hw0]
  clear hw0
  refine HC.out.mono ?_
  rintro e w1 ⟨v, nums, rfl, hv, hn, hb1⟩
  have HN := Lib.hid hn
  have HV := Lib.hid hv
  obtain ⟨va, cap, rfl, _, _⟩ := hv.slice
  have HBA := Lib.hid hb1
  have hwr : wrap64 ((nums.length : Int) - 1) = (nums.length : Int) - 1 := IntWalk.wrap64_in _ (by have := HCL.out; have := HN.out.1; omega)
  clear hn hv hb1 HC
  go_wp2_with fail
  refine (HT.out w1 _ nums _ HBA.out HV.out HN.out).mono ?_
  rintro e w3 ⟨tv, rfl, htv, hb3⟩
  have HBC := Lib.hid (HBA.out.trans (hb3.mono HBA.out.size))
  obtain ⟨ta, tcap, rfl, _, _⟩ := htv.slice
  have hs1 := HBC.out.size
  have hs0 := HB.out.size
  obtain ⟨z3, z4⟩ := (HB1.out.below HBC.out).cells
  have HE1 := Lib.hid (HB1.out.below HBC.out)
  have hlt3 := (HB1.out.below HBC.out).lt
  have HCB := Lib.hid (Ch.of_below (fun _ => False) (HB.out.trans (HBC.out.mono HB.out.size)))
  obtain ⟨o, ho⟩ : ∃ o, at? rl ((nums.length : Int) - 1) = o := ⟨_, rfl⟩
  have HAO := Lib.hid (show at? rl ((rl.length : Nat) - 1) = o by rw [← HN.out.1]; exact ho)
  rw [ho]
  obtain ⟨b, hbo⟩ : ∃ b, o.isSome = b := ⟨_, rfl⟩
  have HO := Lib.hid hbo
  obtain ⟨⟨⟨pa, pb⟩, ⟨⟨ia, ib⟩, tags, data⟩⟩, hgo⟩ : ∃ r, o.getD rw0 = r := ⟨_, rfl⟩
  have HG := Lib.hid hgo
  rw [hgo, hbo]
  unfold recV plV
  simp only
  clear htv hb3 HT ho hbo hgo HBA hwr
  go_wp2_with fail
  obtain ⟨f1, f2⟩ := (show Blk _ w.heap.size #[.int .i64 pa, .int .i64 pb] 39 from (((HE1.out.set 0 (.int .i64 pa)).set 1 (.int .i64 pb)).alloc (.cells #[.int .i64 ia, .int .i64 ib, .slice ta tags.length tcap, .string data] 26)).alloc (.cells #[.int .i64 pa, .int .i64 pb] 39)).cells
  refine bodyPost_ret (v := .tuple #[plV (pa, pb), .bool b]) (by simp [results, Try.results41, go_sem, f1, plV]) rfl ⟨by unfold tailV; rw [HAO.out, HG.out, HO.out], ?_⟩
  exact ((((HCB.out.set (p := ⟨w.heap.size, 0, none⟩) (.inl (Nat.le_refl _)) _).set (p := ⟨w.heap.size, 1, none⟩) (.inl (Nat.le_refl _)) _).alloc _).alloc _).below
end Go.Proofs.Ytpdibjaeopcimaa
