/- index: add. -/
import Derived.Test.YtpdibjaeopcimaaIf
set_option linter.unusedVariables false
set_option linter.unusedSimpArgs false
namespace Go.Proofs.Ytpdibjaeopcimaa
open Go.RowKit

/-- Colours of what is new: block B none, all behind it a row's tags. -/
def colB (B : Nat) (c : Nat → Nat) (k : Nat) : Nat := if k < B then c k else if k = B then 0 else 7
theorem colB_lt {B k : Nat} (c : Nat → Nat) (h : k < B) : colB B c k = c k := if_pos h
theorem colB_eq (B : Nat) (c : Nat → Nat) : colB B c B = 0 := by simp [colB]
theorem colB_gt {B k : Nat} (c : Nat → Nat) (h : B < k) : colB B c k = 7 := by unfold colB; rw [if_neg (by omega), if_neg (by omega)]
/-- What the append of a row leaves. -/
def RowDone (c : Nat → Nat) (w : World) (x mt mi mm : Nat) (rws : List (Rw × Value)) (f : Int → List Nat) (ids : List (Pl × Pl)) (st : XSt) (w' : World) : Prop :=
  ∃ c3 v, IxL c3 w' x v mt mi mm rws f ids st ∧ (∀ k, k < w.heap.size → c3 k = c k) ∧ (∀ k, w'.heap.size ≤ k → c3 k = c k) ∧ Ch (fun k => c k = 2 ∨ c k = 1) w w'
theorem IxL.addRow' {c : Nat → Nat} {w : World} {x : Nat} {rv : Value} {mt mi mm : Nat} {rws : List (Rw × Value)} {f : Int → List Nat} {ids : List (Pl × Pl)} {st : XSt} {wa w5 : World} {g off cap : Nat} {r : Rw} {tv : Value} (h : IxL c w x rv mt mi mm rws f ids st) (ha : Ch (fun _ => False) w wa)
    (hown : ORow 6 rwO w5 0 (.slice (some ⟨g, off, none⟩) (rws.length + 1) cap) (rws ++ [(r, tv)])) (hgrow : wa.grownBy w5 rv.ownBlock) (hg : rv.ownBlock = some g ∨ wa.heap.size ≤ g) (htv : VRow (fun k => c k = 7) 1 intO w tv r.r.tags) :
    RowDone c w x mt mi mm (rws ++ [(r, tv)]) f ids { st with rows := st.rows ++ [r] } (w5.setCell ⟨x, 0, none⟩ (.slice (some ⟨g, off, none⟩) (rws.length + 1) cap)) := by
  have hsz := ha.size
  refine ⟨_, _, h.addRow ha hown hgrow hg htv, fun k hk => ?_, fun k hk => ?_, ?_⟩
  · try dsimp only
    split
    · rename_i e
      subst e
      rcases hg with e | e
      · exact (h.rows.own k e).symm
      · omega
    · rfl
  · have hl := (hown.own (g := g) rfl).2
    have e : (w5.setCell ⟨x, 0, none⟩ (.slice (some ⟨g, off, none⟩) (rws.length + 1) cap)).heap.size = w5.heap.size := by simp [World.setCell]
    rw [e] at hk
    try dsimp only
    rw [if_neg (by omega)]
  · exact (((ha.mono (S' := fun k => rv.ownBlock = some k) (fun k e => e.elim)).step (Ch.of_grown hgrow) (fun k hk e => e.symm)).mono (S' := fun k => c k = 2 ∨ c k = 1) (fun k e => .inl (h.rows.own k e))).set (p := ⟨x, 0, none⟩) (.inr (.inr h.cx)) _

/-- The tags' loop. -/
def AddIn (w : World) (c : Nat → Nat) (x : Nat) (rv : Value) (mt mi mm : Nat) (rws : List (Rw × Value)) (ids : List (Pl × Pl)) (st : XSt) (rows : List Rw) (tl : List Int) (n : Nat) (v : Value) (wi : World) : Prop :=
  ∃ (k : Nat) (c' : Nat → Nat), v = .int .i64 (k : Int) ∧ k ≤ tl.length ∧ IxL c' wi x rv mt mi mm rws (fun t => numsF t 0 rows ++ (if t ∈ tl.take k then [n] else [])) ids st ∧ (∀ j, j < w.heap.size → c' j = c j) ∧ Ch (fun j => c j = 3 ∨ c j = 6) w wi
theorem add_start {w : World} {c : Nat → Nat} {x : Nat} {rv : Value} {mt mi mm : Nat} {rws : List (Rw × Value)} {ids : List (Pl × Pl)} {st : XSt} {rows : List Rw} (tl : List Int) (n : Nat) (h : IxL c w x rv mt mi mm rws (fun t => numsF t 0 rows) ids st) : AddIn w c x rv mt mi mm rws ids st rows tl n (.int .i64 0) w :=
  ⟨0, c, rfl, Nat.zero_le _, by simpa using h, fun _ _ => rfl, Ch.refl _ _⟩
theorem add_end {rows : List Rw} {r : Rw} {n : Nat} (hn : n = rows.length) : (fun t => numsF t 0 rows ++ (if t ∈ (0 :: r.r.tags) then [n] else [])) = fun t => numsF t 0 (rows ++ [r]) := by
  funext t
  rw [numsF_snoc, hn]
  congr 1
  unfold hasR
  by_cases h0 : t = 0
  · simp [h0]
  · simp [h0]
/-- One tag's turn: the function of the numbers. -/
theorem add_next {rows : List Rw} {tl : List Int} {k n : Nat} {t : Int} (hp : tl.Pairwise (· < ·)) (ht : tl[k]? = some t) :
    numsF t 0 rows ++ (if t ∈ tl.take k then [n] else []) = numsF t 0 rows ∧ (fun u => if u = t then (numsF t 0 rows ++ (if t ∈ tl.take k then [n] else [])) ++ [n] else numsF u 0 rows ++ (if u ∈ tl.take k then [n] else [])) = fun u => numsF u 0 rows ++ (if u ∈ tl.take (k + 1) then [n] else []) := by
  have hkl := (List.getElem?_eq_some_iff.1 ht).1
  have hnot : ¬ t ∈ tl.take k := by
    intro h
    obtain ⟨j, hj, e⟩ := List.getElem_of_mem h
    rw [List.length_take] at hj
    rw [List.getElem_take] at e
    have := List.pairwise_iff_getElem.1 hp j k (by omega) hkl (by omega)
    rw [e] at this
    have e2 : tl[k] = t := by
      have := List.getElem?_eq_getElem hkl
      rw [ht] at this
      exact (Option.some.inj this).symm
    rw [e2] at this
    exact absurd this (Int.lt_irrefl _)
  have e1 : tl.take (k + 1) = tl.take k ++ [t] := by rw [List.take_add_one, ht]; rfl
  refine ⟨by rw [if_neg hnot, List.append_nil], ?_⟩
  funext u
  rw [e1]
  by_cases hu : u = t
  · subst hu
    rw [if_pos rfl, if_neg hnot, List.append_nil, if_pos (by simp)]
  · rw [if_neg hu]
    congr 1
    by_cases hm : u ∈ tl.take k
    · rw [if_pos hm, if_pos (by simp [hm])]
    · rw [if_neg hm, if_neg (by simp [hm, hu])]

theorem add_round {w wr w7 w8 : World} {c c' : Nat → Nat} {x : Nat} {rv : Value} {mt mi mm : Nat} {rws : List (Rw × Value)} {ids : List (Pl × Pl)} {st : XSt} {rows : List Rw} {tl : List Int} {n k g : Nat} {v vv : Value}
    (hI : IxL c' wr x rv mt mi mm rws (fun t => numsF t 0 rows ++ (if t ∈ tl.take k then [n] else [])) ids st) (hre : ∀ j, j < w.heap.size → c' j = c j) (hC : Ch (fun j => c j = 3 ∨ c j = 6) w wr) (hk : k < tl.length) (hv : v = .int .i64 ((k + 1 : Nat) : Int)) (hvc : ∀ g, vv.ownBlock = some g → c' g = 6)
    (hG : GroupsX (fun j => if j = g then 6 else c' j) w8 mt (fun t => numsF t 0 rows ++ (if t ∈ tl.take (k + 1) then [n] else []))) (h7 : Ch (fun j => vv.ownBlock = some j) wr w7) (h8 : Ch (· = mt) w7 w8) (hg : vv.ownBlock = some g ∨ wr.heap.size ≤ g) :
    AddIn w c x rv mt mi mm rws ids st rows tl n v w8 := by
  have hre8 : ∀ j, j < wr.heap.size → (if j = g then 6 else c' j) = c' j := by
    intro j hj
    split
    · rename_i e
      subst e
      rcases hg with e | e
      · exact (hvc j e).symm
      · omega
    · rfl
  have hC8 : Ch (fun j => vv.ownBlock = some j ∨ j = mt) wr w8 := (h7.mono (fun j e => .inl e)).step h8 (fun j hj e => .inr e)
  have hS : ∀ j, j < wr.heap.size → (vv.ownBlock = some j ∨ j = mt) → c' j = 3 ∨ c' j = 6 := by
    intro j hj e
    rcases e with e | e
    · exact .inr (hvc j e)
    · exact .inl (by rw [e]; exact hI.grp.1)
  refine ⟨k + 1, _, hv, hk, hI.putGrp hG hre8 hC8 hS, fun j hj => ?_, hC.step hC8 (fun j hj e => ?_)⟩
  · have := hC.size
    rw [hre8 j (by omega)]
    exact hre j hj
  · have := hC.size
    have h3 := hS j (by omega) e
    rw [hre j hj] at h3
    exact h3

set_option maxRecDepth 100000 in
set_option maxHeartbeats 8000000 in
theorem add_any {G S : Nat → Prop} {x : Nat} {st : XSt} (i : It) (tv : Value) (w : World) (h : Ix G w x st) (hg : GoodX st) (hk : keepsX st i = true) (htv : VRow S 1 intO w tv i.r.tags) (hm : st.rows.length ≤ 4000000) (hSG : ∀ k, S k → G k) :
    Calls Try.prog 52 #[.pointer (some ⟨x, 0, none⟩), itemV i tv] w fun e w' => e = .returned (.tuple #[]) ∧ XPost G x (addX st i) w w' := by
  obtain ⟨kind, ⟨sa, sb⟩, ⟨⟨ia, ib⟩, tags, data⟩, tag, ⟨ua, ub⟩, far⟩ := i
  obtain ⟨c, rv, mt, mi, mm, rws, i1, hG⟩ := h
  simp only at htv
  have hts : tags.length ≤ 8 ∧ (tags.Pairwise (· < ·) ∧ ∀ t ∈ tags, 1 ≤ t) := by
    unfold keepsX rightR at hk
    simp only [Bool.and_eq_true, decide_eq_true_eq] at hk
    exact ⟨hk.1.1.1.2.1.1.2, tagsRight_good hk.1.1.1.2.2⟩
  have HTS := Lib.hid hts
  obtain ⟨ta, tcap, rfl, _, _⟩ := htv.slice
  have lx := i1.box.lt
  have lmi := i1.ids.lt
  obtain ⟨q1, q2⟩ := i1.box.cells
  have hne : ¬ (w.heap.size = x) := by omega
  -- behind the store of the last place
  have cx := i1.cx
  have hC1 : Ch (· = x) w ((w.setCell ⟨x, 4, none⟩ (.int .i64 sa)).setCell ⟨x, 5, none⟩ (.int .i64 sb)) := ((Ch.refl (· = x) w).set (p := ⟨x, 4, none⟩) (.inr rfl) _).set (p := ⟨x, 5, none⟩) (.inr rfl) _
  have hI1 := (show IxL c ((w.setCell ⟨x, 4, none⟩ (.int .i64 sa)).setCell ⟨x, 5, none⟩ (.int .i64 sb)) x rv mt mi mm rws (fun t => numsF t 0 st.rows) (idsL st.rows) { st with last := (sa, sb) } from i1.last (sa, sb))
  obtain ⟨w1, hw1⟩ : ∃ w1, w1 = ((w.setCell ⟨x, 4, none⟩ (.int .i64 sa)).setCell ⟨x, 5, none⟩ (.int .i64 sb)).alloc (.cells #[.int .i64 kind, .int .i64 sa, .int .i64 sb, .int .i64 ia, .int .i64 ib, .slice ta tags.length tcap, .string data, .int .i64 tag, .int .i64 ua, .int .i64 ub] 41) := ⟨_, rfl⟩
  have hI2 : IxL c w1 x rv mt mi mm rws (fun t => numsF t 0 st.rows) (idsL st.rows) { st with last := (sa, sb) } := by rw [hw1]; exact hI1.below (below1 _ _)
  have hC2 : Ch (· = x) w w1 := by rw [hw1]; exact hC1.alloc _
  have hB2 : Blk w1 w.heap.size #[.int .i64 kind, .int .i64 sa, .int .i64 sb, .int .i64 ia, .int .i64 ib, .slice ta tags.length tcap, .string data, .int .i64 tag, .int .i64 ua, .int .i64 ub] 41 := by rw [hw1]; exact Blk.new' (by simp [World.setCell])
  have hV2 : VRow S 1 intO w1 (.slice ta tags.length tcap) tags := htv.ch hC2 (fun k e e2 => by have := (hG k (hSG k e)).2; rw [e2, cx] at this; cases this)
  have hnG : ∀ k, c k ≠ 0 → ¬ G k := fun k h0 hk => h0 (hG k hk).2
  have hC3 : Ch (fun k => ¬ G k) w w1 := hC2.mono (fun k e => hnG k (by rw [e, cx]; decide))
  have HI := Lib.hid hI2
  have HC := Lib.hid hC3
  have HBI := Lib.hid hB2
  have HV := Lib.hid hV2
  have HG := Lib.hid hG
  have HNG := Lib.hid hnG
  have HSG0 := Lib.hid hSG
  have HKG := Lib.hid (fun hn : ¬ st.rows.any (fun w => w.r.id == (ia, ib)) = true => (show addX st ⟨kind, (sa, sb), ⟨(ia, ib), tags, data⟩, tag, (ua, ub), far⟩ = { st with last := (sa, sb), rows := st.rows ++ [⟨(sa, sb), ⟨(ia, ib), tags, data⟩⟩] } by unfold addX; rw [if_neg hn]))
  have HKS := Lib.hid (fun hn : st.rows.any (fun w => w.r.id == (ia, ib)) = true => (show addX st ⟨kind, (sa, sb), ⟨(ia, ib), tags, data⟩, tag, (ua, ub), far⟩ = { st with last := (sa, sb) } by unfold addX; rw [if_pos hn]))
  obtain ⟨st', hst'⟩ : ∃ st', addX st ⟨kind, (sa, sb), ⟨(ia, ib), tags, data⟩, tag, (ua, ub), far⟩ = st' := ⟨_, rfl⟩
  rw [hst'] at HKG HKS ⊢
  -- the look-up of the id
  have hlk := fun y : Later w1 => (hI2.ids.below y.h).look keyId Try.underlying92 (zeroSeq _) (ia, ib) true
  rw [find_look] at hlk
  obtain ⟨⟨⟨u, v⟩, is⟩, hq⟩ : ∃ r, findX st (ia, ib) = r := ⟨_, rfl⟩
  have HIS := Lib.hid (show st.rows.any (fun w => w.r.id == (ia, ib)) = is by
    rw [← getA_ids]
    unfold findX at hq
    cases hga : getA (ia, ib) (idsL st.rows) <;> rw [hga] at hq <;> cases hq <;> rfl)
  rw [hq] at hlk
  have hlk2 := hlk ⟨w1.drew, (Below.refl _ _).drew⟩
  have hlk3 := hlk ⟨(w1.alloc (.cells #[.int .i64 0, .int .i64 0] 39)).drew, (below1 w1 _).drew⟩
  unfold plV at hlk2 hlk3
  simp only at hlk2 hlk3
  have hsz1 : w1.heap.size = w.heap.size + 1 := by rw [hw1]; simp [World.setCell]
  have HS1 := Lib.hid hsz1
  clear i1 hI1 hI2 hC1 hC2 hC3 hB2 hV2 hnG hlk hq hg hk hts hst' htv hSG hG cx hsz1
  unfold itemV
  simp only
  go_enter Try.func52, Try.ntmps52
  go_wp2_with fail
  rw [← hw1]
  clear hw1 q1 q2 hne
  obtain ⟨q1, q2⟩ := HI.out.box.cells
  obtain ⟨q3, q4⟩ := HBI.out.cells
  have l1 := HI.out.box.lt
  have l2 := HBI.out.lt
  go_cut [5] (fun v5 wx => v5 = .bool is ∧ Below w1.heap.size w1 wx)
  case first =>
    go_region
    all_goals
      go_wp2_with fail
      go_meet
      exact ⟨rfl, Ch.below (by (repeat (first | with_reducible assumption | with_reducible exact Ch.refl _ _ | with_reducible refine Ch.drew ?_ | with_reducible refine Ch.alloc ?_ _ | (with_reducible refine Ch.set' ?_ ?_; focus (first | (right; rfl; done) | (left; simp; done) | (left; simp; omega) | (left; omega) | (right; simp; done) | (right; simp; omega))))))⟩
  case rest =>
    obtain ⟨rfl, hbx⟩ := hcut
    have HI3 := Lib.hid (HI.out.below hbx)
    have HB3 := Lib.hid (HBI.out.below hbx)
    have HC3 := Lib.hid (HC.out.call hbx)
    have HV3 := Lib.hid (HV.out.below hbx)
    clear hlk2 hlk3 q1 q2 q3 q4 hbx HI HBI HC HV
    cases is with
    | true =>
      have HE := Lib.hid (HKS.out HIS.out)
      go_wp2_with fail
      exact bodyPost_ret (v := .tuple #[]) (by simp [results, Try.results52, go_sem]) rfl ⟨rfl, by rw [HE.out]; exact ⟨HI3.out.ix (fun k hk => ⟨Nat.lt_of_lt_of_le (HG.out k hk).1 HC3.out.size, (HG.out k hk).2⟩), HC3.out⟩⟩
    | false =>
      have HE := Lib.hid (HKG.out (by rw [HIS.out]; simp))
      have cmi := HI3.out.ci
      have HMI := Lib.hid cmi
      clear cmi
      obtain ⟨q1, q2⟩ := HI3.out.box.laterCells
      obtain ⟨q3, q4⟩ := HB3.out.laterCells
      go_wp2_with fail
      refine wp_region_quiet_tail 9 (C := fun w' => ∃ y : Later wc, w' = y.w) (by kernel_rfl) (by kernel_rfl) ⟨⟨wc.drew, (Below.refl _ _).drew⟩, rfl⟩ ?_
      simp only [List.take_succ_cons, List.take_zero, List.drop_succ_cons, List.drop_zero]
      repeat (go_big_quiet_step (fail))
      refine wpQuiet_nil ?_
      rintro _ ⟨y, rfl⟩
      have HI4 := Lib.hid (HI3.out.below y.h)
      have HB4 := Lib.hid (HB3.out.below y.h)
      have HC4 := Lib.hid (HC3.out.call y.h)
      have HV4 := Lib.hid (HV3.out.below y.h)
      obtain ⟨w2, hw2⟩ : ∃ w2, w2 = y.w := ⟨_, rfl⟩
      rw [← hw2] at HI4 HB4 HC4 HV4 ⊢
      clear hw2 q1 q2 q3 q4 HI3 HB3 HC3 HV3
      go_wp2_with (at_mapUpdate; refine wpList_store_map rfl _ _ _ 92 rfl keyId Try.underlying92 rfl HI4.out.ids (ia, ib) (sa, sb) rfl rfl ?_)
      intro w3 hm3 hc3
      rw [putA_new (by have := getA_ids st.rows (ia, ib); rw [HIS.out] at this; cases hga : getA (ia, ib) (idsL st.rows) with | none => rfl | some q => rw [hga] at this; cases this)] at hm3
      have hid5 : idsL st.rows ++ [((ia, ib), (sa, sb))] = idsL (st.rows ++ [⟨(sa, sb), ⟨(ia, ib), tags, data⟩⟩]) := by simp [idsL]
      rw [hid5] at hm3
      have cG : ∀ k n, c k = n → n ≠ 0 → ¬ G k := fun k n e h0 => HNG.out k (by rw [e]; exact h0)
      have HCG := Lib.hid cG
      have nmi : w.heap.size ≠ mi := by omega
      have HI5 := Lib.hid (HI4.out.putIds hm3 hc3)
      have HB5 := Lib.hid (HB4.out.ch hc3 nmi)
      have HC5 := Lib.hid (HC4.out.trans (hc3.mono (fun k e => cG k 4 (by rw [e]; exact HMI.out) (by decide))))
      have HV5 := Lib.hid (HV4.out.ch hc3 (fun k e e2 => cG k 4 (by rw [e2]; exact HMI.out) (by decide) (HSG0.out k e)))
      clear hm3 hc3 hid5 cG nmi HI4 HB4 HC4 HV4
      obtain ⟨q1, q2⟩ := HB5.out.cells
      obtain ⟨q5, q6⟩ := HI5.out.box.cells
      have l3 := HB5.out.lt
      have l4 := HI5.out.box.lt
      -- the clone of the tags
      have hbr := below1 w3 (.cells #[.int .i64 ia, .int .i64 ib, .slice ta tags.length tcap, .string data] 26)
      have HCL := Lib.hid (clone_any (w3.alloc (.cells #[.int .i64 ia, .int .i64 ib, .slice ta tags.length tcap, .string data] 26)) (HV5.out.below hbr) (by have := HTS.out.1; omega))
      have HBR := Lib.hid (Blk.new w3 #[.int .i64 ia, .int .i64 ib, .slice ta tags.length tcap, .string data] 26)
      have HI6 := Lib.hid ((HI5.out.re (c2 := colB w3.heap.size c) (fun k hk => colB_lt c hk)).below hbr)
      have HB6 := Lib.hid (HB5.out.below hbr)
      have HC6 := Lib.hid (HC5.out.call hbr)
      have hs6 : (w3.alloc (.cells #[.int .i64 ia, .int .i64 ib, .slice ta tags.length tcap, .string data] 26)).heap.size = w3.heap.size + 1 := by simp
      have HS6 := Lib.hid hs6
      clear hbr hs6 HI5 HB5 HC5 HV5
      go_wp2_with fail
      refine HCL.out.mono ?_
      rintro e w5 ⟨tv2, rfl, hv, hb5⟩
      obtain ⟨ta2, tcap2, rfl, _, _⟩ := hv.slice
      have hsz5 := hb5.size
      rw [HS6.out] at hsz5
      have HS9 := Lib.hid (show w.heap.size ≤ w3.heap.size by have := HC6.out.size; rw [HS6.out] at this; have := l3; omega)
      clear q5 q6
      have hI7 := HI6.out.below hb5
      obtain ⟨ra, rcap, hrv, _, _⟩ := hI7.rows.row.slice
      have HRV := Lib.hid hrv
      obtain ⟨q5, q6⟩ := hI7.box.cells
      rw [hrv] at q5
      have l6 := hI7.box.lt
      have nx3 : ¬ (w3.heap.size = x) := by omega
      have HV7 := Lib.hid (hv.mono (S' := fun k => colB w3.heap.size c k = 7) (fun k hk e => colB_gt c (by rw [HS6.out] at e; omega)))
      have HI7 := Lib.hid hI7
      have HB7 := Lib.hid (HB6.out.below hb5)
      have HC7 := Lib.hid (HC6.out.call hb5)
      have HR7 := Lib.hid (HBR.out.below hb5)
      obtain ⟨q1, q2⟩ := HR7.out.cells
      have l5 := HR7.out.lt
      clear hI7 hv hb5 hrv HI6 HB6 HC6 HBR HCL
      go_wp2_with fail
      -- the tags are stored
      have hc8 : Ch (· = w3.heap.size) w5 (w5.setCell ⟨w3.heap.size, 2, none⟩ (.slice ta2 tags.length tcap2)) := (Ch.refl (· = w3.heap.size) w5).set (p := ⟨w3.heap.size, 2, none⟩) (.inr rfl) _
      have HI8 := Lib.hid (HI7.out.ch hc8 (fun k e => by rw [e]; exact colB_eq _ _))
      have HV8 := Lib.hid (HV7.out.ch hc8 (fun k e e2 => by rw [e2, colB_eq] at e; cases e))
      have HB8 := Lib.hid (HB7.out.ch hc8 (by omega))
      have HR8 := Lib.hid (show Blk (w5.setCell ⟨w3.heap.size, 2, none⟩ (.slice ta2 tags.length tcap2)) w3.heap.size #[.int .i64 ia, .int .i64 ib, .slice ta2 tags.length tcap2, .string data] 26 from HR7.out.set 2 (.slice ta2 tags.length tcap2))
      have HC8 := Lib.hid (show Ch (fun k => ¬ G k) w (w5.setCell ⟨w3.heap.size, 2, none⟩ (.slice ta2 tags.length tcap2)) from HC7.out.set (p := ⟨w3.heap.size, 2, none⟩) (.inl (by simp only; omega)) _)
      obtain ⟨w6, hw6⟩ : ∃ w6, w6 = w5.setCell ⟨w3.heap.size, 2, none⟩ (.slice ta2 tags.length tcap2) := ⟨_, rfl⟩
      rw [← hw6] at HI8 HV8 HB8 HR8 HC8 ⊢
      clear hw6 hc8 q1 q2 q5 q6 HI7 HV7 HB7 HR7 HC7
      have HG1 := Lib.hid (show Blk w6 x #[.slice ra rws.length rcap, .map (some mt), .map (some mi), .map (some mm), .int .i64 sa, .int .i64 sb, .int .i64 (st.applied : Nat)] 96 from by have := HI8.out.box; rw [HRV.out] at this; exact this)
      obtain ⟨q1, q2⟩ := HG1.out.cells
      obtain ⟨q3, q4⟩ := HB8.out.cells
      obtain ⟨q5, q6⟩ := HR8.out.cells
      have e1 := HG1.out.lt
      have e2 := HB8.out.lt
      have e3 := HR8.out.lt
      have HOW := Lib.hid (fun w' (hc : Ch (fun _ => False) w6 w') => HRV.out ▸ HI8.out.rows.row.ch hc (fun _ _ => id))
      have HNQ := Lib.hid (show ¬ some x = (Value.slice ra rws.length rcap).ownBlock from by
        rw [← HRV.out]
        intro e
        have h1 := HI8.out.rows.own x e.symm
        rw [HI8.out.cx] at h1
        cases h1)
      have HRL := Lib.hid (show rws.length = st.rows.length by rw [← HI8.out.rows.fst]; simp)
      go_cut [57] (fun v57 wx => RowDone (colB w3.heap.size c) w6 x mt mi mm (rws ++ [(⟨(sa, sb), ⟨(ia, ib), tags, data⟩⟩, .slice ta2 tags.length tcap2)]) (fun t => numsF t 0 st.rows) (idsL (st.rows ++ [⟨(sa, sb), ⟨(ia, ib), tags, data⟩⟩])) { st with last := (sa, sb), rows := st.rows ++ [⟨(sa, sb), ⟨(ia, ib), tags, data⟩⟩] } wx)
      case first =>
        go_region_law (refine step_append_row (x := (⟨(sa, sb), ⟨(ia, ib), tags, data⟩⟩, .slice ta2 tags.length tcap2)) rfl (.tmp 51) (.tmp 56) rfl rfl rfl rfl (HOW.out _ (by (repeat (first | with_reducible assumption | with_reducible exact Ch.refl _ _ | with_reducible refine Ch.drew ?_ | with_reducible refine Ch.alloc ?_ _ | (with_reducible refine Ch.set' ?_ ?_; focus (first | (right; rfl; done) | (left; simp; done) | (left; simp; omega) | (left; omega) | (right; simp; done) | (right; simp; omega))))))) (by (repeat (first | (with_reducible refine Blk.new' ?_; first | rfl | (simp; done) | (simp; omega)) | with_reducible refine Blk.drew ?_ | with_reducible refine Blk.alloc ?_ _))) (Nat.zero_le _) (by have := HRL.out; omega) ?_
                       intro g7 off7 cap7 w7 hown7 hgrow7 hg7
                       obtain ⟨z1, z2⟩ := ((HG1.out.alloc (.cells #[.int .i64 sa, .int .i64 sb, .int .i64 ia, .int .i64 ib, .slice ta2 tags.length tcap2, .string data] 108)).drew.ch (Ch.of_grown hgrow7) HNQ.out).cells)
        all_goals
          go_wp2_with fail
          go_meet
          have HA := HI8.out.addRow' (((Ch.refl (fun _ => False) w6).alloc (.cells #[.int .i64 sa, .int .i64 sb, .int .i64 ia, .int .i64 ib, .slice ta2 tags.length tcap2, .string data] 108)).drew) hown7 (by rw [HRV.out]; exact hgrow7) (by rw [HRV.out]; exact hg7) (r := ⟨(sa, sb), ⟨(ia, ib), tags, data⟩⟩) HV8.out
          exact HA
      case rest =>
        obtain ⟨c3, rv3, hI9, hre9, hnew9, hC9⟩ := hcut
        have HV9 := Lib.hid (HV8.out.ch hC9 (fun k e e2 => by rw [e] at e2; rcases e2 with e2 | e2 <;> cases e2))
        have HR9 := Lib.hid (HR8.out.ch hC9 (by rw [colB_eq]; intro e; rcases e with e | e <;> cases e))
        have HC9 := Lib.hid (HC8.out.step hC9 (fun k hk e => HNG.out k (by
          have h1 := HC8.out.size
          have h2 : colB w3.heap.size c k = c k := colB_lt c (by have := HS9.out; omega)
          rw [h2] at e
          rcases e with e | e <;> rw [e] <;> decide)))
        have HI9 := Lib.hid hI9
        have HRE9 := Lib.hid hre9
        have HNEW9 := Lib.hid hnew9
        have HSW := Lib.hid (show w3.heap.size < w6.heap.size from HR8.out.lt)
        have hrs := hC9.size
        obtain ⟨rws9, hrws9⟩ : ∃ l, rws ++ [((⟨(sa, sb), ⟨(ia, ib), tags, data⟩⟩ : Rw), Value.slice ta2 tags.length tcap2)] = l := ⟨_, rfl⟩
        obtain ⟨ids9, hids9⟩ : ∃ l, idsL (st.rows ++ [⟨(sa, sb), ⟨(ia, ib), tags, data⟩⟩]) = l := ⟨_, rfl⟩
        obtain ⟨st9, hst9⟩ : ∃ l, ({ st with last := (sa, sb), rows := st.rows ++ [⟨(sa, sb), ⟨(ia, ib), tags, data⟩⟩] } : XSt) = l := ⟨_, rfl⟩
        rw [hrws9, hids9, hst9] at HI9
        have HE9 := Lib.hid (And.intro hids9 hst9)
        obtain ⟨q1, q2⟩ := HR9.out.cells
        have l9 := HR9.out.lt
        have HTL := Lib.hid (show ((0 : Int) :: tags).Pairwise (· < ·) from List.pairwise_cons.2 ⟨fun t ht => by have := HTS.out.2.2 t ht; omega, HTS.out.2.1⟩)
        clear hI9 hre9 hnew9 hC9 q3 q4 q5 q6 HI8 HV8 HB8 HR8 HC8 HG1 HOW HNQ hrws9 hids9 hst9
        have hownz := World.ownsRow_lit (base := 0) (e := 3) (size := 1) wc #[.int .i64 0] 1 (Nat.zero_le _) (by simp [maxLen]) rfl
        go_wp2_with (at_builtin; refine wpList_append_ints rfl (.tmp 60) (.tmp 62) rfl (xs := [0]) (ys := tags) rfl rfl hownz (HV9.out.below (below1 _ _)) rfl (by decide) (by have := HTS.out.1; omega) ?_)
        intro a10 cap10 w10 hV10 hC10
        have hB10 : Below wc.heap.size wc w10 := Ch.below (((Ch.refl (fun _ => False) wc).alloc (.cells #[.int .i64 0] 3)).step hC10 (fun k hk e => by omega))
        have HI10 := Lib.hid (HI9.out.below hB10)
        have HC10 := Lib.hid (HC9.out.call hB10)
        obtain ⟨tl, htl⟩ : ∃ tl, (0 : Int) :: tags = tl := ⟨_, rfl⟩
        have htl2 : 1 + tags.length = tl.length := by rw [← htl]; simp; omega
        have HTE := Lib.hid htl
        have HLL := Lib.hid (show tl.length ≤ 9 by rw [← htl2]; have := HTS.out.1; omega)
        rw [htl2]
        rw [htl, htl2] at hV10
        rw [htl] at HTL
        have HV10 := Lib.hid (hV10.mono (S' := fun k => c3 k = 7) (fun k hk e => by
          have hwk : wc.heap.size ≤ k := by omega
          rw [HNEW9.out k hwk]
          exact colB_gt c (by omega)))
        have HSZ := Lib.hid hB10.size
        -- colours of what came since: a row's tags
        have HI11 := Lib.hid (HI10.out)
        clear hV10 hC10 hB10 hownz q1 q2 htl htl2 HI9 HC9 HV9 HR9
        go_wp2_with fail
        go_loopw [65] (fun v wi => AddIn w10 c3 x rv3 mt mi mm rws9 ids9 st9 st.rows tl rws.length v wi) (fun i _ => tl.length - (intOf i).toNat)
        case atStart => exact add_start tl rws.length HI11.out
        case round =>
          obtain ⟨k, c', rfl, hk, hI, hre, hC⟩ := hrel
          have HI := Lib.hid hI
          have HRE := Lib.hid hre
          have HCR := Lib.hid hC
          have hVr := HV10.out.ch hC (fun j e e2 => by rw [e] at e2; rcases e2 with e2 | e2 <;> cases e2)
          clear hI hre hC HI10 HI11
          by_cases hlt : k < tl.length
          · have ht : decide ((k : Int) < (tl.length : Int)) = true := by simpa using hlt
            obtain ⟨t, htt⟩ : ∃ t, tl[k]? = some t := ⟨_, List.getElem?_eq_getElem hlt⟩
            obtain ⟨g, off, cap, e, hat⟩ := hVr.at htt
            cases e
            have c0 : wr.cell? ⟨g, off + k, none⟩ = some (.int .i64 t) := by simpa using hat 0 _ rfl
            have m0 := (cell_spot c0).2
            simp only at m0
            obtain ⟨n1, n2⟩ := add_next (rows := st.rows) (n := rws.length) HTL.out htt
            obtain ⟨vv, hvo, hvc, hlk, hst⟩ := HI.out.grp.step t
            rw [n1] at hvo hst n2
            have HST := Lib.hid (hst rws.length)
            have hnl := numsF_len t st.rows 0
            have hnl2 : (numsF t 0 st.rows).length ≤ 4000000 := by rw [hnl]; exact Nat.le_trans (List.length_filter_le _ _) hm
            have HNL := Lib.hid hnl2
            obtain ⟨nums, hnums⟩ : ∃ nums, numsF t 0 st.rows = nums := ⟨_, rfl⟩
            have HNU := Lib.hid hnums
            rw [hnums] at hvo HST HNL n2
            have N2 := Lib.hid n2
            have hlk2 := hlk ⟨wr.drew, (Below.refl _ _).drew⟩
            have hlk3 := hlk ⟨(wr.alloc (.cells #[.int .i64 (rws.length : Nat)] 3)).drew, (below1 wr _).drew⟩
            simp only at hlk2 hlk3
            have HVO := Lib.hid (fun w' (hc : Ch (fun _ => False) wr w') => hvo.ch hc (fun _ _ => id))
            obtain ⟨va, vcap, rfl, _, _⟩ := hvo.slice
            have HVC := Lib.hid hvc
            have HVX := Lib.hid (show ¬ some x = (Value.slice va nums.length vcap).ownBlock from fun e => by
              have h1 := hvc x e.symm
              rw [HI.out.cx] at h1
              cases h1)
            have HLT := Lib.hid hlt
            have HW2 := Lib.hid (show wrap64 ((k : Int) + 1) = (k : Int) + 1 from IntWalk.wrap64_in _ (by have := HLL.out; omega))
            have HBX := Lib.hid HI.out.box
            obtain ⟨q1, q2⟩ := HBX.out.cells
            have lxr := HBX.out.lt
            have lmt := HI.out.grp.lt
            clear hvo hlk hst n1 n2 hnl hnl2 hnums hvc hat hVr htt
            go_wp2_with fail
            go_region_law (refine step_append_num (x := rws.length) rfl (.tmp 79) (.tmp 81) rfl rfl rfl (HVO.out _ (by (repeat (first | with_reducible assumption | with_reducible exact Ch.refl _ _ | with_reducible refine Ch.drew ?_ | with_reducible refine Ch.alloc ?_ _ | (with_reducible refine Ch.set' ?_ ?_; focus (first | (right; rfl; done) | (left; simp; done) | (left; simp; omega) | (left; omega) | (right; simp; done) | (right; simp; omega))))))) (by (repeat (first | (with_reducible refine Blk.new' ?_; first | rfl | (simp; done) | (simp; omega)) | with_reducible refine Blk.drew ?_ | with_reducible refine Blk.alloc ?_ _))) (Nat.zero_le _) (by have := HNL.out; omega) ?_
                           intro g7 off7 cap7 w7 hown7 hgrow7 hg7
                           have hCh7 : Ch (fun k => (Value.slice va nums.length vcap).ownBlock = some k) wr w7 := ((((Ch.refl (fun _ => False) wr).alloc (.cells #[.int .i64 (rws.length : Nat)] 3)).drew).mono (S' := fun k => (Value.slice va nums.length vcap).ownBlock = some k) (fun k e => e.elim)).step (Ch.of_grown hgrow7) (fun k hk e => e.symm)
                           obtain ⟨w8, hst8, G8, c8, s8⟩ := HST.out w7 g7 off7 cap7 hown7 hCh7 (hg7.imp id (fun e => by simp at e; omega))
                           obtain ⟨z1, z2⟩ := (HBX.out.ch hCh7 (fun e => HVX.out e.symm)).cells)
            all_goals
              go_wp2_with fail
              go_roundw
              case rel => exact add_round HI.out HRE.out HCR.out HLT.out (by first | rfl | (rw [HW2.out]; rfl)) HVC.out (N2.out ▸ G8) hCh7 c8 (hg7.imp id (fun e => by simp at e; omega))
              case measure => first | exact rt_meas HW2.out HLT.out | exact rt_meas2 HLT.out
          · have ht : decide ((k : Int) < (tl.length : Int)) = false := by simpa using hlt
            have ht2 : decide (tl.length ≤ k) = true := by simp; omega
            have ht3 : decide (k < tl.length) = false := by simpa using hlt
            have hke : k = tl.length := by omega
            have HF := Lib.hid (show Ix G wr x st' ∧ Ch (fun k => ¬ G k) w wr from by
              have hI := HI.out
              have hf := add_end (rows := st.rows) (r := ⟨(sa, sb), ⟨(ia, ib), tags, data⟩⟩) HRL.out
              simp only at hf
              rw [hke, List.take_length, ← HTE.out, hf, ← HE9.out.1, ← HE9.out.2] at hI
              rw [HE.out]
              have hG10 : ∀ k, G k → k < w10.heap.size ∧ c3 k = 0 := fun k hk => by
                have h1 := HG.out k hk
                have h2 := HS9.out
                have h3 := HC10.out.size
                refine ⟨by omega, ?_⟩
                rw [HRE9.out k (by have := HSW.out; omega), colB_lt c (by omega)]
                exact h1.2
              exact ⟨hI.ix (fun k hk => ⟨Nat.lt_of_lt_of_le (hG10 k hk).1 HCR.out.size, by rw [HRE.out k (hG10 k hk).1]; exact (hG10 k hk).2⟩),
                HC10.out.step HCR.out (fun k hk e hg => by
                  rw [(hG10 k hg).2] at e
                  rcases e with e | e <;> cases e)⟩)
            clear hke
            go_wp2_with fail
            exact bodyPost_end (v := .tuple #[]) (by simp [results, Try.results52, go_sem]) rfl ⟨rfl, HF.out⟩
end Go.Proofs.Ytpdibjaeopcimaa
