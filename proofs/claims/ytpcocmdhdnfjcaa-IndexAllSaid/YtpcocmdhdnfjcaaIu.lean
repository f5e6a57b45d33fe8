/- index's reference: Find; and that it is what the index finds. -/
import Derived.Test.YtpcocmdhdnfjcaaIq
set_option linter.unusedVariables false
set_option linter.unusedSimpArgs false
namespace Go.Proofs.Ytpcocmdhdnfjcaa
open Go.RowKit

def isId (id : Pl) (i : It) : Bool := i.kind == 1 && (i.r.id.1 == id.1 && i.r.id.2 == id.2)
/-- The first place of an id. -/
def findD (L : List It) (id : Pl) : Pl × Bool := match L.find? (isId id) with
  | none => ((0, 0), false)
  | some i => (i.seq, true)
theorem isId_iff {id : Pl} {i : It} : isId id i = true ↔ i.kind = 1 ∧ i.r.id = id := by
  unfold isId
  simp only [Bool.and_eq_true, beq_iff_eq]
  exact ⟨fun h => ⟨h.1, Prod.ext h.2.1 h.2.2⟩, fun h => ⟨h.1, by rw [h.2]; exact ⟨rfl, rfl⟩⟩⟩

/-- What holds behind every item that is applied. -/
theorem applied_le (st : XSt) (i : It) : (applyX st i).1.applied ≤ st.applied + 1 := by
  unfold applyX
  split
  · exact Nat.le_refl _
  · split
    · exact Nat.le_refl _
    · exact Nat.le_succ _
theorem applied_stD : ∀ M : List It, (stD M.reverse).applied ≤ M.length
  | [] => Nat.le_refl _
  | i :: M => by
    rw [List.reverse_cons, stD_snoc, List.length_cons]
    exact Nat.le_trans (applied_le _ _) (Nat.succ_le_succ (applied_stD M))
theorem stD_ind {P : List It → XSt → Prop} (h0 : P [] xst0) (h1 : ∀ L st i, P L st → keepsX st i = true → P (L ++ [i]) (incX (addX st i))) (h2 : ∀ L st i, P L st → trimsX i = true → P (L ++ [i]) (incX (trimX st i))) : ∀ M : List It, (stD M.reverse).applied = M.length → P M.reverse (stD M.reverse)
  | [], _ => h0
  | i :: M, h => by
    rw [List.reverse_cons, stD_snoc] at *
    rw [List.length_cons] at h
    have h3 := applied_le (stD M.reverse) i
    have h4 := applied_stD M
    have ih := stD_ind h0 h1 h2 M (by omega)
    by_cases hk : keepsX (stD M.reverse) i = true
    · rw [show applyX (stD M.reverse) i = (incX (addX (stD M.reverse) i), 0) by unfold applyX; rw [if_pos hk]]
      exact h1 _ _ _ ih hk
    · by_cases ht : trimsX i = true
      · rw [show applyX (stD M.reverse) i = (incX (trimX (stD M.reverse) i), 0) by unfold applyX; rw [if_neg hk, if_pos ht]]
        exact h2 _ _ _ ih ht
      · have e : applyX (stD M.reverse) i = (stD M.reverse, 1) := by unfold applyX; rw [if_neg hk, if_neg ht]
        rw [e] at h
        simp only at h
        omega
theorem Same.ind {P : List It → XSt → Prop} (h0 : P [] xst0) (h1 : ∀ L st i, P L st → keepsX st i = true → P (L ++ [i]) (incX (addX st i))) (h2 : ∀ L st i, P L st → trimsX i = true → P (L ++ [i]) (incX (trimX st i))) {L : List It} {st : XSt} (h : Same L st) : P L st := by
  have := stD_ind h0 h1 h2 L.reverse
  rw [List.reverse_reverse, ← h.eq, List.length_reverse] at this
  exact this h.app
theorem keeps_kind {st : XSt} {i : It} (h : keepsX st i = true) : i.kind = 1 := by
  unfold keepsX at h
  simp only [Bool.and_eq_true, beq_iff_eq] at h
  exact h.1.1.1.1
theorem trims_kind {i : It} (h : trimsX i = true) : i.kind = 2 := by
  unfold trimsX at h
  simp only [Bool.and_eq_true, beq_iff_eq] at h
  exact h.1
theorem getA_snoc {α β : Type} [DecidableEq α] (a b : α) (c : β) : ∀ l : List (α × β), getA a (l ++ [(b, c)]) = (getA a l).or (if b = a then some c else none)
  | [] => rfl
  | p :: l => by
    simp only [List.cons_append, getA]
    split
    · rfl
    · exact getA_snoc a b c l
theorem same_ids {L : List It} {st : XSt} (h : Same L st) : ∀ id, getA id (idsL st.rows) = (L.find? (isId id)).map (·.seq) := by
  refine Same.ind (P := fun L st => ∀ id, getA id (idsL st.rows) = (L.find? (isId id)).map (·.seq)) (fun _ => rfl) ?_ ?_ h
  · intro L st i ih hk id
    rw [List.find?_append]
    show getA id (idsL (addX st i).rows) = _
    have h1 := keeps_kind hk
    have hi : [i].find? (isId id) = if i.r.id = id then some i else none := by
      by_cases e : i.r.id = id
      · rw [if_pos e, List.find?_cons_of_pos (isId_iff.2 ⟨h1, e⟩)]
      · rw [if_neg e, List.find?_cons_of_neg (fun h => e (isId_iff.1 h).2)]
        rfl
    rw [hi]
    by_cases hr : st.rows.any (fun w => w.r.id == i.r.id) = true
    · rw [show (addX st i).rows = st.rows by unfold addX; rw [if_pos hr], ih id]
      by_cases e : i.r.id = id
      · have h2 := getA_ids st.rows i.r.id
        rw [hr, e, ih id] at h2
        cases hf : L.find? (isId id) with
        | none => rw [hf] at h2; cases h2
        | some j => rfl
      · rw [if_neg e, Option.or_none]
    · rw [show (addX st i).rows = st.rows ++ [⟨i.seq, i.r⟩] by unfold addX; rw [if_neg hr]]
      unfold idsL
      rw [List.map_append]
      rw [show [(⟨i.seq, i.r⟩ : Rw)].map (fun r => (r.r.id, r.pl)) = [(i.r.id, i.seq)] from rfl, getA_snoc]
      have := ih id
      unfold idsL at this
      rw [this]
      cases L.find? (isId id) with
      | some j => rfl
      | none =>
        by_cases e : i.r.id = id
        · rw [if_pos e, if_pos e]; rfl
        · rw [if_neg e, if_neg e]; rfl
  · intro L st i ih ht id
    rw [List.find?_append, List.find?_cons_of_neg (fun h => by have := (isId_iff.1 h).1; have := trims_kind ht; omega), List.find?_nil, Option.or_none]
    exact ih id
theorem find_same {L : List It} {st : XSt} (h : Same L st) (id : Pl) : findX st id = findD L id := by
  unfold findX findD
  rw [same_ids h id]
  cases L.find? (isId id) <;> rfl
/-- The ids of rows that are read are found where they lie. -/
theorem find_row {st : XSt} (hg : GoodX st) {r : Rw} (hr : r ∈ st.rows) : findX st r.r.id = (r.pl, true) := by
  have key : ∀ rl : List Rw, rl.Pairwise (fun a b => a.r.id ≠ b.r.id) → r ∈ rl → getA r.r.id (idsL rl) = some r.pl := by
    intro rl
    induction rl with
    | nil => intro _ h; cases h
    | cons q rl ih =>
      intro hp hm
      rw [List.pairwise_cons] at hp
      unfold idsL
      simp only [List.map_cons, getA]
      rcases List.mem_cons.1 hm with rfl | hm
      · rw [if_pos rfl]
      · rw [if_neg (hp.1 r hm)]
        exact ih hp.2 hm
  unfold findX
  rw [key _ hg.one hr]

/-- Find's loop. -/
def FdIn (w0 : World) (L : List It) (id : Pl) (v : Value) (wi : World) : Prop := ∃ k : Nat, v = .int .i64 (k : Int) ∧ k ≤ L.length ∧ (∀ j i, j < k → L[j]? = some i → isId id i = false) ∧ Below w0.heap.size w0 wi
theorem findD_at {L : List It} {id : Pl} {k : Nat} {i : It} (h : ∀ j i, j < k → L[j]? = some i → isId id i = false) (hk : L[k]? = some i) (hi : isId id i = true) : findD L id = (i.seq, true) := by
  have : L.find? (isId id) = some i := by
    rw [List.find?_eq_some_iff_getElem]
    have hl := (List.getElem?_eq_some_iff.1 hk)
    refine ⟨hi, k, hl.1, hl.2, fun j hj => ?_⟩
    rw [h j _ hj (List.getElem?_eq_getElem (by have := hl.1; omega))]
    rfl
  unfold findD
  rw [this]
theorem findD_no {L : List It} {id : Pl} (h : ∀ j i, j < L.length → L[j]? = some i → isId id i = false) : findD L id = ((0, 0), false) := by
  have : L.find? (isId id) = none := by
    rw [List.find?_eq_none]
    intro i hi
    obtain ⟨j, hj, rfl⟩ := List.getElem_of_mem hi
    rw [h j _ hj (List.getElem?_eq_getElem hj)]
    simp
  unfold findD
  rw [this]
attribute [local go_sem high] eqId eqSeq
set_option maxRecDepth 100000 in
set_option maxHeartbeats 8000000 in
theorem rfind_any {S : Nat → Prop} {v : Value} (l : List (It × Value)) (id : Pl) (w : World) (h : ItsAt S w v l) (hm : l.length ≤ 4194304) :
    Calls Try.prog 19 #[docV v, plV id] w fun e w' => e = .returned (.tuple #[plV (findD (its l) id).1, .bool (findD (its l) id).2]) ∧ Below w.heap.size w w' := by
  obtain ⟨ia, ib⟩ := id
  have hb0 : Below w.heap.size w (((w.alloc (.cells #[v] 48)).alloc (.cells #[.int .i64 ia, .int .i64 ib] 31)).alloc (.cells #[.int .i64 0, .int .i64 0] 29)) := Ch.below (by (repeat (first | with_reducible assumption | with_reducible exact Ch.refl _ _ | with_reducible refine Ch.drew ?_ | with_reducible refine Ch.alloc ?_ _ | (with_reducible refine Ch.set' ?_ ?_; focus (first | (right; rfl; done) | (left; simp; done) | (left; simp; omega) | (left; omega) | (right; simp; done) | (right; simp; omega))))))
  have B1 := ((Blk.new w #[v] 48).alloc (.cells #[.int .i64 ia, .int .i64 ib] 31)).alloc (.cells #[.int .i64 0, .int .i64 0] 29)
  have B2 := (Blk.new (w.alloc (.cells #[v] 48)) #[.int .i64 ia, .int .i64 ib] 31).alloc (.cells #[.int .i64 0, .int .i64 0] 29)
  have B3 := (Blk.new ((w.alloc (.cells #[v] 48)).alloc (.cells #[.int .i64 ia, .int .i64 ib] 31)) #[.int .i64 0, .int .i64 0] 29)
  rw [show (w.alloc (.cells #[v] 48)).heap.size = w.heap.size + 1 by simp] at B2
  rw [show ((w.alloc (.cells #[v] 48)).alloc (.cells #[.int .i64 ia, .int .i64 ib] 31)).heap.size = w.heap.size + 1 + 1 by simp] at B3
  obtain ⟨w0, hw0⟩ : ∃ w0, w0 = (((w.alloc (.cells #[v] 48)).alloc (.cells #[.int .i64 ia, .int .i64 ib] 31)).alloc (.cells #[.int .i64 0, .int .i64 0] 29)) := ⟨_, rfl⟩
  rw [← hw0] at hb0 B1 B2 B3
  have HV := Lib.hid (h.old.below hb0)
  obtain ⟨a, cap, rfl, _, _⟩ := h.row.slice
  have HB := Lib.hid hb0
  have HB1 := Lib.hid B1
  have HB2 := Lib.hid B2
  have HB3 := Lib.hid B3
  have HM := Lib.hid hm
  have HLL := Lib.hid (show (its l).length = l.length by simp [its])
  obtain ⟨⟨⟨ra, rb⟩, ris⟩, hR⟩ : ∃ R, findD (its l) (ia, ib) = R := ⟨_, rfl⟩
  rw [hR]
  have HR := Lib.hid hR
  unfold docV plV
  simp only
  clear h hm hb0 B1 B2 B3 hR
  go_enter Try.func19, Try.ntmps19
  go_wp2_with fail
  rw [← hw0]
  clear hw0
  go_loopw [6] (fun v wi => FdIn w0 (its l) (ia, ib) v wi) (fun i _ => l.length - (intOf i).toNat)
  case atStart => exact ⟨0, rfl, Nat.zero_le _, fun j i hj _ => absurd hj (Nat.not_lt_zero _), Below.refl _ _⟩
  case round =>
    obtain ⟨k, rfl, hk, hno, hbr⟩ := hrel
    have HNO := Lib.hid hno
    have HBR := Lib.hid hbr
    have HBG := Lib.hid (HB.out.trans (hbr.mono HB.out.size))
    have HV2 := Lib.hid (HV.out.below hbr)
    obtain ⟨q1, q2⟩ := (HB1.out.below hbr).cells
    obtain ⟨q3, q4⟩ := (HB3.out.below hbr).cells
    have l1 := (HB1.out.below hbr).lt
    have l3 := (HB3.out.below hbr).lt
    rw [HLL.out] at hk
    clear hno hbr
    by_cases hlt : k < l.length
    · have ht : decide ((k : Int) < (l.length : Int)) = true := by simpa using hlt
      obtain ⟨⟨i, tv⟩, hp⟩ : ∃ p, l[k]? = some p := ⟨_, List.getElem?_eq_getElem hlt⟩
      obtain ⟨g, off, cap2, e, hg, hS, htv, c0, c1, c2, c3, c4, c5, c6, c7, c8, c9, c10, c11⟩ := HV2.out.item hp
      cases e
      have HPI := Lib.hid (show (its l)[k]? = some i by unfold its; rw [List.getElem?_map, hp]; rfl)
      have HW2 := Lib.hid (show wrap64 ((k : Int) + 1) = (k : Int) + 1 from IntWalk.wrap64_in _ (by have := HM.out; omega))
      have HLT := Lib.hid hlt
      have D0 := Lib.hid (fun y : Later wr => (y.h.cell (cell_spot c0).2).trans c0)
      have D1 := Lib.hid (fun y : Later wr => (y.h.cell (cell_spot c1).2).trans c1)
      have D2 := Lib.hid (fun y : Later wr => (y.h.cell (cell_spot c2).2).trans c2)
      have D3 := Lib.hid (fun y : Later wr => (y.h.cell (cell_spot c3).2).trans c3)
      have D4 := Lib.hid (fun y : Later wr => (y.h.cell (cell_spot c4).2).trans c4)
      clear hp htv c0 c1 c2 c3 c4 c5 c6 c7 c8 c9 c10 c11 q1 q2 q3 q4 l1 l3 hlt hg hS
      obtain ⟨bb, hbb⟩ : ∃ bb, isId (ia, ib) i = bb := ⟨_, rfl⟩
      have HBB := Lib.hid hbb
      unfold isId at hbb
      simp only at hbb
      obtain ⟨q1, q2⟩ := (HB1.out.below HBR.out).cells
      go_wp2_with fail
      go_cut [31] (fun v31 wx => v31 = .bool bb ∧ Below wr.heap.size wr wx)
      case first =>
        have d0 := D0.out
        have d3 := D3.out
        have d4 := D4.out
        clear q1 q2
        obtain ⟨q1, q2⟩ := (HB1.out.below HBR.out).laterCells
        obtain ⟨q3, q4⟩ := (HB2.out.below HBR.out).laterCells
        by_cases h1 : (i.kind == 1) = true
        · rw [h1, Bool.true_and] at hbb
          refine wp_region_later (by kernel_rfl) (by kernel_rfl) ?_
          repeat (go_big_quiet_step (fail))
          refine wpQuiet_nil ?_
          rintro _ ⟨y, rfl⟩
          go_wp2_with fail
          go_meet
          exact ⟨by rw [← hbb], y.h⟩
        · simp only [Bool.not_eq_true] at h1
          rw [h1, Bool.false_and] at hbb
          subst hbb
          refine wp_region_later (by kernel_rfl) (by kernel_rfl) ?_
          repeat (go_big_quiet_step (fail))
          refine wpQuiet_nil ?_
          rintro _ ⟨y, rfl⟩
          go_wp2_with fail
          go_meet
          exact ⟨rfl, y.h⟩
      case rest =>
        obtain ⟨rfl, hby⟩ := hcut
        have HBY := Lib.hid (HBR.out.trans (hby.mono HBR.out.size))
        have HBGY := Lib.hid (HBG.out.trans (hby.mono HBG.out.size))
        have c1 := D1.out ⟨_, hby⟩
        have c2 := D2.out ⟨_, hby⟩
        simp only at c1 c2
        clear q1 q2 hby
        obtain ⟨q1, q2⟩ := (HB1.out.below HBY.out).cells
        obtain ⟨q3, q4⟩ := (HB3.out.below HBY.out).cells
        have l1 := (HB1.out.below HBY.out).lt
        have l3 := (HB3.out.below HBY.out).lt
        cases bb with
        | true =>
          have HX := Lib.hid (findD_at HNO.out HPI.out HBB.out)
          go_wp2_with fail
          obtain ⟨y1, y2⟩ := (show Blk _ (w.heap.size + 1 + 1) #[.int .i64 i.seq.1, .int .i64 i.seq.2] 29 from (((HB3.out.below HBY.out).set 0 (.int .i64 i.seq.1)).set 1 (.int .i64 i.seq.2))).cells
          have hE : (((i.seq.1 : Int), (i.seq.2 : Int)), true) = ((ra, rb), ris) := HX.out.symm.trans HR.out
          cases hE
          refine bodyPost_ret (v := .tuple #[.agg #[.int .i64 i.seq.1, .int .i64 i.seq.2], .bool true]) (by simp [results, Try.results19, go_sem, y1]) rfl ⟨rfl, ?_⟩
          have hC6 := ((Ch.refl (fun k => w.heap.size ≤ k) wc).set (p := ⟨w.heap.size + 1 + 1, 0, none⟩) (.inr (by simp; omega)) (.int .i64 i.seq.1)).set (p := ⟨w.heap.size + 1 + 1, 1, none⟩) (.inr (by simp; omega)) (.int .i64 i.seq.2)
          exact Ch.below ((Ch.of_below (fun _ => False) HBGY.out).step hC6 (fun j hj e => by omega))
        | false =>
          have HX := Lib.hid (show ∀ j i, j < k + 1 → (its l)[j]? = some i → isId (ia, ib) i = false from fun j u hj hu => by
            by_cases hjk : j = k
            · subst hjk
              rw [HPI.out] at hu
              cases hu
              exact HBB.out
            · exact HNO.out j u (by omega) hu)
          go_wp2_with fail
          go_roundw
          case rel => exact ⟨k + 1, (by first | rfl | (rw [HW2.out]; rfl)), (by rw [HLL.out]; exact HLT.out), HX.out, HBY.out⟩
          case measure => first | exact rt_meas HW2.out HLT.out | exact rt_meas2 HLT.out
    · have ht : decide ((k : Int) < (l.length : Int)) = false := by simpa using hlt
      have ht2 : decide (l.length ≤ k) = true := by simp; omega
      have ht3 : decide (k < l.length) = false := by simpa using hlt
      have HX := Lib.hid (findD_no (L := its l) (id := (ia, ib)) (fun j i hj hu => HNO.out j i (by rw [HLL.out] at hj; omega) hu))
      go_wp2_with fail
      obtain ⟨y1, y2⟩ := (show Blk _ (w.heap.size + 1 + 1) #[.int .i64 0, .int .i64 0] 29 from (((HB3.out.below HBR.out).set 0 (.int .i64 0)).set 1 (.int .i64 0))).cells
      have hE : (((0 : Int), (0 : Int)), false) = ((ra, rb), ris) := HX.out.symm.trans HR.out
      cases hE
      refine bodyPost_ret (v := .tuple #[.agg #[.int .i64 0, .int .i64 0], .bool false]) (by simp [results, Try.results19, go_sem, y1]) rfl ⟨rfl, ?_⟩
      have hC6 := ((Ch.refl (fun k => w.heap.size ≤ k) wr).set (p := ⟨w.heap.size + 1 + 1, 0, none⟩) (.inr (by simp; omega)) (.int .i64 0)).set (p := ⟨w.heap.size + 1 + 1, 1, none⟩) (.inr (by simp; omega)) (.int .i64 0)
      exact Ch.below ((Ch.of_below (fun _ => False) HBG.out).step hC6 (fun j hj e => by omega))
end Go.Proofs.Ytpcocmdhdnfjcaa
