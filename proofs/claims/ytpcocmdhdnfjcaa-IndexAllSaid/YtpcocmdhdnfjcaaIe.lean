/- index: Range. -/
import Derived.Test.YtpcocmdhdnfjcaaId
import Derived.Test.YtpcocmdhdnfjcaaTail
import Derived.Deep.RegionLaw
set_option linter.unusedVariables false
set_option linter.unusedSimpArgs false
namespace Go.Proofs.Ytpcocmdhdnfjcaa
open Go.RowKit

def rangeR (rl : List Rw) (a b : Pl) : List Rw := rl.filter fun w => !lessP w.pl a && lessP w.pl b
def rangeX (st : XSt) (t : Int) (a b : Pl) : List Pl := (rangeR (countX st t) a b).map (·.pl)
theorem range_cut {rl : List Rw} (h : rowsUp rl) (a b : Pl) : (rl.drop (firstN rl a)).take (firstN rl b - firstN rl a) = rangeR rl a b := by
  obtain ⟨d1, _⟩ := firstN_parts h a
  have hup : rowsUp (rl.filter fun w => !lessP w.pl a) := h.filter _
  obtain ⟨_, d2⟩ := firstN_parts hup b
  have e : firstN rl b - firstN rl a = firstN (rl.filter fun w => !lessP w.pl a) b := by
    unfold firstN
    clear d1 d2 hup h
    by_cases hab : lessP b a = true
    · have h1 : ∀ l : List Rw, (l.filter fun r => lessP r.pl b).length ≤ (l.filter fun r => lessP r.pl a).length := by
        intro l
        induction l with
        | nil => simp
        | cons x l ih =>
          simp only [List.filter_cons]
          by_cases hx : lessP x.pl b = true
          · rw [if_pos hx, if_pos (less_trans hx hab)]
            simpa using ih
          · rw [if_neg hx]
            split
            · simp; omega
            · exact ih
      have h2 : ((rl.filter fun w => !lessP w.pl a).filter fun r => lessP r.pl b) = [] := by
        rw [List.filter_filter, List.filter_eq_nil_iff]
        intro x _ hx
        simp only [Bool.and_eq_true, Bool.not_eq_true'] at hx
        have := less_trans hx.1 hab
        rw [hx.2] at this
        cases this
      rw [h2]
      have := h1 rl
      simp
      omega
    · have h1 : ∀ l : List Rw, (l.filter fun r => lessP r.pl b).length = (l.filter fun r => lessP r.pl a).length + ((l.filter fun w => !lessP w.pl a).filter fun r => lessP r.pl b).length := by
        intro l
        induction l with
        | nil => simp
        | cons x l ih =>
          simp only [List.filter_cons]
          by_cases hx : lessP x.pl a = true
          · rw [if_pos hx, if_pos (less_le' hx (by simpa using hab))]
            simp [hx, ih]
            omega
          · simp only [hx, Bool.not_false, if_true, List.filter_cons]
            simp only [Bool.not_eq_true] at hx
            split <;> simp [ih] <;> omega
      have := h1 rl
      omega
  rw [d1, e, d2]
  unfold rangeR
  rw [List.filter_filter]
  exact List.filter_congr fun x _ => by rw [Bool.and_comm]
def PRow (w : World) (base : Nat) (v : Value) (xs : List Pl) : Prop := ORow 2 plO w base v xs
theorem infoSeq : (Try.prog.info? 29).map (fun i => (i.zero, i.size, i.bytes)) = some (some (.agg #[.int .i64 0, .int .i64 0]), 2, 16) := by kernel_rfl
theorem plO_one (x : Pl) : ∀ u ∈ plO x, u.oneCell' = true := by
  intro u hu
  simp [plO] at hu
  rcases hu with rfl | rfl <;> rfl
/-- One place is appended. -/
theorem wpList_append_seq {w : World} {ops : Array Oper} {rest : List Oper} {o : Oper} {a : Act} {Q : Exit → Act → World → Prop} (hgd : o.guard = none) (s y : Operand)
    (ho : o.op = .call { callee := .builtin .append, args := #[s, y], argTypes := #[27, 27] }) {base p : Nat} {v : Value} {xs : List Pl} {x : Pl} (he : a.eval s = v) (hy : a.eval y = .slice (some ⟨p, 0, none⟩) 1 1)
    (hv : PRow w base v xs) (hp : Blk w p #[.int .i64 x.1, .int .i64 x.2] 29) (hbase : base ≤ w.heap.size) (hl : xs.length ≤ 4194304)
    (h : ∀ g off cap w', PRow w' base (.slice (some ⟨g, off, none⟩) (xs.length + 1) cap) (xs ++ [x]) → w.grownBy w' v.ownBlock → (v.ownBlock = some g ∨ w.heap.size ≤ g) → wpList Try.prog ops Q rest (a.put o.dst (.slice (some ⟨g, off, none⟩) (xs.length + 1) cap)) w') : wpList Try.prog ops Q (o :: rest) a w := by
  obtain ⟨i0, hinfo, hz0, hz1, hz2⟩ := info_parts infoSeq
  refine wpList_append_off plO_len plO_one (by decide) hgd s y 27 ho hv Try.underlying27 hinfo hz0 hz1 hz2 rfl he hy (x := x) ?_ hbase (by unfold maxLen; omega) (by omega) h
  intro j u hu
  rw [hp.cell]
  simpa [plO] using hu

theorem step_append_seq {w : World} {ops : Array Oper} {o : Oper} {a : Act} {K : Act → World → Prop} {Q : Exit → Act → World → Prop} {E : Prop} (hgd : o.guard = none) (s y : Operand)
    (ho : o.op = .call { callee := .builtin .append, args := #[s, y], argTypes := #[27, 27] }) {base p : Nat} {v : Value} {xs : List Pl} {x : Pl} (he : a.eval s = v) (hy : a.eval y = .slice (some ⟨p, 0, none⟩) 1 1)
    (hv : PRow w base v xs) (hp : Blk w p #[.int .i64 x.1, .int .i64 x.2] 29) (hbase : base ≤ w.heap.size) (hl : xs.length ≤ 4194304)
    (h : ∀ g off cap w', PRow w' base (.slice (some ⟨g, off, none⟩) (xs.length + 1) cap) (xs ++ [x]) → w.grownBy w' v.ownBlock → (v.ownBlock = some g ∨ w.heap.size ≤ g) → K (a.put o.dst (.slice (some ⟨g, off, none⟩) (xs.length + 1) cap)) w') :
    if Region.wanted o (yielded ops a.tmps) = true then Oper.wp Try.prog o a w K Q else E := by
  obtain ⟨i0, hinfo, hz0, hz1, hz2⟩ := info_parts infoSeq
  refine step_append_off plO_len plO_one (by decide) hgd s y 27 ho hv Try.underlying27 hinfo hz0 hz1 hz2 rfl he hy (x := x) ?_ hbase (by unfold maxLen; omega) (by omega) h
  intro j u hu
  rw [hp.cell]
  simpa [plO] using hu

def RangePost (l : List Pl) (w : World) (e : Ending) (w' : World) : Prop := ∃ v, e = .returned v ∧ PRow w' w.heap.size v l ∧ Below w.heap.size w w'
/-- Range's loop. -/
def RgIn (w w0 : World) (rl : List Rw) (k1 k2 : Nat) (v10 v11 : Value) (wi : World) : Prop :=
  ∃ j u, u = v10 ∧ v11 = .int .i64 ((k1 + j : Nat) : Int) ∧ j ≤ k2 - k1 ∧ PRow wi w.heap.size u (((rl.drop k1).take j).map (·.pl)) ∧ Below w0.heap.size w0 wi ∧ (∀ g, u.ownBlock = some g → w0.heap.size ≤ g)
theorem rg_next {k1 j m : Nat} (h : k1 + j = m) : Value.int .i64 ((m : Int) + 1) = .int .i64 ((k1 + (j + 1) : Nat) : Int) := by
  rw [← h]
  simp
  omega
theorem rg_le {k1 k2 j m : Nat} (h : k1 + j = m) (h2 : m < k2) : j + 1 ≤ k2 - k1 := by omega
theorem rg_meas {k1 k2 j m : Nat} (h : k1 + j = m) (h2 : m < k2) : k1 + (k2 - k1) - (intOf (.int .i64 ((m : Int) + 1))).toNat < k1 + (k2 - k1) - (intOf (.int .i64 (m : Int))).toNat := by
  simp only [intOf]
  omega
set_option maxRecDepth 100000 in
set_option maxHeartbeats 4000000 in
theorem xrange_any {G : Nat → Prop} {x : Nat} {st : XSt} (t : Int) (a b : Pl) (w : World) (h : Ix G w x st) (hg : GoodX st) (hm : st.rows.length ≤ 4000000) :
    Calls Try.prog 11 #[.pointer (some ⟨x, 0, none⟩), .int .i64 t, plV a, plV b] w (RangePost (rangeX st t a b) w) := by
  have hb0 := below2 w (.cells #[.int .i64 a.1, .int .i64 a.2] 29) (.cells #[.int .i64 b.1, .int .i64 b.2] 29)
  have B1 := (Blk.new w #[.int .i64 a.1, .int .i64 a.2] 29).alloc (.cells #[.int .i64 b.1, .int .i64 b.2] 29)
  have B2 := (Blk.new (w.alloc (.cells #[.int .i64 a.1, .int .i64 a.2] 29)) #[.int .i64 b.1, .int .i64 b.2] 29)
  rw [show (w.alloc (.cells #[.int .i64 a.1, .int .i64 a.2] 29)).heap.size = w.heap.size + 1 by simp] at B2
  obtain ⟨wA, hwA⟩ : ∃ wA, wA = (w.alloc (.cells #[.int .i64 a.1, .int .i64 a.2] 29)).alloc (.cells #[.int .i64 b.1, .int .i64 b.2] 29) := ⟨_, rfl⟩
  rw [← hwA] at hb0 B1 B2
  have HX := Lib.hid (h.below' hb0)
  have HC := Lib.hid (counting_any t wA HX.out hg (by omega))
  have hcl : (countX st t).length ≤ 4000000 := Nat.le_trans (count_len st t) hm
  have HF := Lib.hid (fun c w' lv nums (hb : Below wA.heap.size wA w') (hl : VRow (fun _ => True) 1 natO w' lv nums) (hn : NumsOf st nums (countX st t)) => first_any c w' (HX.out.below' hb) hl hn (good_count hg t) (by omega))
  have hrc := range_cut (good_count hg t) a b
  unfold rangeX
  obtain ⟨rl, hrl⟩ : ∃ rl, countX st t = rl := ⟨_, rfl⟩
  rw [hrl] at HF hcl hrc ⊢
  rw [← hrc]
  unfold CountPost at HC
  rw [hrl] at HC
  have hk1 := firstN_le rl a
  have hk2 := firstN_le rl b
  have HFa := Lib.hid (HF.out a)
  have HFb := Lib.hid (HF.out b)
  obtain ⟨k1, hk1e⟩ : ∃ k, firstN rl a = k := ⟨_, rfl⟩
  obtain ⟨k2, hk2e⟩ : ∃ k, firstN rl b = k := ⟨_, rfl⟩
  rw [hk1e] at hk1 HFa ⊢
  rw [hk2e] at hk2 HFb ⊢
  have HK := Lib.hid (And.intro hcl (And.intro hk1 hk2))
  have HB := Lib.hid hb0
  have HB1 := Lib.hid B1
  have HB2 := Lib.hid B2
  have hs0 := hb0.size
  obtain ⟨a1, a2⟩ := a
  obtain ⟨b1, b2⟩ := b
  unfold plV at HFa HFb ⊢
  simp only at hwA HFa HFb HB1 HB2 ⊢
  clear h hg hm hb0 B1 B2 hrl hrc hcl hk1 hk2 HF hk1e hk2e
  go_enter Try.func11, Try.ntmps11
  go_wp2_with fail
  rw [← hwA]
  clear hwA
  refine HC.out.mono ?_
  rintro e w1 ⟨v, nums, rfl, hv, hn, hbA⟩
  have HN := Lib.hid hn
  have HV := Lib.hid hv
  obtain ⟨va, cap, rfl, _, _⟩ := hv.slice
  obtain ⟨q1, q2⟩ := (HB1.out.below hbA).cells
  have HBA := Lib.hid hbA
  clear hn hv hbA HC
  go_wp2_with fail
  refine (HFa.out w1 _ nums HBA.out HV.out HN.out).mono ?_
  rintro e w2 ⟨rfl, hbB⟩
  have HBB := Lib.hid (HBA.out.trans (hbB.mono HBA.out.size))
  have HV2 := Lib.hid (HV.out.below hbB)
  clear hbB q1 q2 HV HFa
  go_wp2_with fail
  go_loopw [10, 11] (fun v10 v11 wi => RgIn w w2 rl k1 k2 v10 v11 wi) (fun _ v11 _ => k1 + (k2 - k1) - (intOf v11).toNat)
  case atStart => exact ⟨0, _, rfl, by simp, Nat.zero_le _, ORow.nil _ _, Below.refl _ _, fun g e => by simp [Value.ownBlock] at e⟩
  case round =>
    obtain ⟨j, u, rfl, rfl, hj, R, hbR, hown⟩ := hrel
    have KR := Lib.hid R
    have KO := Lib.hid hown
    have KB := Lib.hid (HBB.out.trans (hbR.mono HBB.out.size))
    have KB2 := Lib.hid hbR
    have KV := Lib.hid (HV2.out.below hbR)
    have HJ := Lib.hid hj
    obtain ⟨q1, q2⟩ := (HB2.out.below KB.out).cells
    clear R hown hj
    have HFr := Lib.hid (HFb.out wr _ nums KB.out KV.out HN.out)
    obtain ⟨m, hm⟩ : ∃ m, k1 + j = m := ⟨_, rfl⟩
    rw [hm]
    have HM := Lib.hid hm
    clear hm hbR
    go_wp2_with fail
    refine HFr.out.mono ?_
    rintro e w3 ⟨rfl, hb3⟩
    have KR3 := Lib.hid (KR.out.below hb3)
    have KB3 := Lib.hid (KB.out.trans (hb3.mono KB.out.size))
    have KB4 := Lib.hid (KB2.out.trans (hb3.mono KB2.out.size))
    have KV3 := Lib.hid (KV.out.below hb3)
    clear hb3 q1 q2 HFr KR KB KB2 KV
    by_cases hlt : m < k2
    · have ht : decide ((m : Int) < (k2 : Int)) = true := by simpa using hlt
      obtain ⟨r, hr⟩ : ∃ r, rl[m]? = some r := ⟨_, List.getElem?_eq_getElem (by have := HK.out; omega)⟩
      obtain ⟨n, hn1, hn2⟩ := HN.out.2 m r hr
      obtain ⟨c, rv, mt, mi, mm, rws, i1, i2⟩ := HX.out.below' KB3.out
      obtain ⟨g, off, cap3, tv, rfl, hg, htv, hat⟩ := i1.row hn2
      obtain ⟨g2, off2, cap2, e2, hat2⟩ := KV3.out.at hn1
      have c0 : w3.cell? ⟨g, off + n * 6, none⟩ = some (.int .i64 r.pl.1) := by simpa using hat 0 _ rfl
      have c1 : w3.cell? ⟨g, off + n * 6 + 1, none⟩ = some (.int .i64 r.pl.2) := by simpa [Nat.add_assoc] using hat 1 _ rfl
      have c2 : w3.cell? ⟨g2, off2 + m, none⟩ = some (.int .i64 (n : Nat)) := by simpa using hat2 0 _ rfl
      have m0 := (cell_spot c0).2
      have m2 := (cell_spot c2).2
      simp only at m0 m2
      have lx := i1.box.lt
      obtain ⟨q1, q2⟩ := i1.box.cells
      have hkl := (List.getElem?_eq_some_iff.1 hn1).1
      have hnl := (List.getElem?_eq_some_iff.1 hn2).1
      have t1 : decide ((m : Int) < (nums.length : Int)) = true := by simpa using hkl
      have t2 : decide ((n : Int) < (st.rows.length : Int)) = true := by simpa using hnl
      have HR := Lib.hid (show ((rl.drop k1).take j).map (·.pl) ++ [r.pl] = ((rl.drop k1).take (j + 1)).map (·.pl) by
        have hjd : (rl.drop k1)[j]? = some r := by rw [List.getElem?_drop, HM.out]; exact hr
        rw [List.take_add_one, hjd]
        simp)
      have HLT := Lib.hid hlt
      have HW := Lib.hid (show wrap64 ((m : Int) + 1) = (m : Int) + 1 from IntWalk.wrap64_in _ (by have := HK.out; omega))
      obtain ⟨⟨pa, pb⟩, hpl⟩ : ∃ q, r.pl = q := ⟨_, rfl⟩
      rw [hpl] at HR c0 c1
      simp only at c0 c1
      obtain ⟨pr, hpr⟩ : ∃ pr, pr = ((rl.drop k1).take j).map (·.pl) := ⟨_, rfl⟩
      rw [← hpr] at KR3 HR
      have hprl : pr.length ≤ 4000000 := by rw [hpr]; simp; have := HK.out; omega
      have HPL := Lib.hid hprl
      cases e2
      have HOW := Lib.hid (fun w' (hc : Ch (fun _ => False) w3 w') => KR3.out.ch hc (fun _ _ => id))
      clear hr hn1 hn2 i1 i2 hat hat2 hg htv hpl hlt hpr hprl
      go_wp2_with fail
      go_region_law (refine step_append_seq (x := (pa, pb)) rfl (.tmp 27) (.tmp 39) rfl rfl rfl (HOW.out _ (by (repeat (first | with_reducible assumption | with_reducible exact Ch.refl _ _ | with_reducible refine Ch.drew ?_ | with_reducible refine Ch.alloc ?_ _ | (with_reducible refine Ch.set' ?_ ?_; focus (first | (right; rfl; done) | (left; simp; done) | (left; simp; omega) | (left; omega) | (right; simp; done) | (right; simp; omega))))))) (by (repeat (first | (with_reducible refine Blk.new' ?_; first | rfl | (simp; done) | (simp; omega)) | with_reducible refine Blk.drew ?_ | with_reducible refine Blk.alloc ?_ _))) (by have := KB3.out.size; simp; omega) (by have := HPL.out; omega) ?_
                     intro g5 off5 cap5 w5 hown5 hgrow5 hg5)
      all_goals
        rw [HR.out] at hown5
        have KR5 := Lib.hid hown5
        have KO5 := Lib.hid (show ∀ g, some g5 = some g → w2.heap.size ≤ g from fun g e => by
          cases e
          rcases hg5 with e | e
          · exact KO.out _ e
          · have := KB4.out.size
            try simp at e
            omega)
        have KBv := Lib.hid (show Below w2.heap.size w2 w5 from Ch.below ((((Ch.of_below (fun _ => False) KB4.out).alloc (.cells #[.int .i64 pa, .int .i64 pb] 29)).drew).step (Ch.of_grown hgrow5) (fun k hk e => by have := KO.out k e.symm; omega)))
        clear hown5 hgrow5 hg5
        go_wp2_with fail
        go_roundw
        case rel => exact ⟨j + 1, _, rfl, (by rw [HW.out]; exact rg_next HM.out), rg_le HM.out HLT.out, KR5.out, KBv.out, KO5.out⟩
        case measure => (rw [HW.out]; exact rg_meas HM.out HLT.out)
    · have ht : decide ((m : Int) < (k2 : Int)) = false := by simpa using hlt
      have ht2 : decide (k2 ≤ m) = true := by simp; omega
      have ht3 : decide (m < k2) = false := by simpa using hlt
      have hjk : j = k2 - k1 := by have := HJ.out; have := HM.out; omega
      subst hjk
      go_wp2_with fail
      exact bodyPost_ret (v := u) (by simp [results, Try.results11, go_sem]) rfl ⟨u, rfl, KR3.out, HB.out.trans (KB3.out.mono HB.out.size)⟩
end Go.Proofs.Ytpcocmdhdnfjcaa
