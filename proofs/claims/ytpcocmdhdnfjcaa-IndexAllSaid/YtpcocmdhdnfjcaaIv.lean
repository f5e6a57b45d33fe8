/- index's laws: what counts is what the document says (plain). -/
import Derived.Test.YtpcocmdhdnfjcaaIu
import Derived.Test.YtpcocmdhdnfjcaaIWalks
set_option linter.unusedVariables false
set_option linter.unusedSimpArgs false
namespace Go.Proofs.Ytpcocmdhdnfjcaa
open Go.RowKit

theorem Same.ind' {P : List It → XSt → Prop} (h0 : P [] xst0) (h1 : ∀ L st i, Same L st → P L st → keepsX st i = true → P (L ++ [i]) (incX (addX st i))) (h2 : ∀ L st i, Same L st → P L st → trimsX i = true → P (L ++ [i]) (incX (trimX st i))) {L : List It} {st : XSt} (h : Same L st) : P L st := by
  refine (Same.ind (P := fun L st => Same L st ∧ P L st) ⟨same0, h0⟩ ?_ ?_ h).2
  · rintro L st i ⟨hS, hP⟩ hk
    have h3 := (same_step hS i).2
    rw [if_pos (by rw [good_keeps hS, hk]; simp), show applyX st i = (incX (addX st i), 0) by unfold applyX; rw [if_pos hk]] at h3
    exact ⟨h3, h1 L st i hS hP hk⟩
  · rintro L st i ⟨hS, hP⟩ ht
    have h3 := (same_step hS i).2
    have hk : ¬ keepsX st i = true := fun hk => by have := keeps_kind hk; have := trims_kind ht; omega
    rw [if_pos (by rw [good_keeps hS, ht]; rfl), show applyX st i = (incX (trimX st i), 0) by unfold applyX; rw [if_neg hk, if_pos ht]] at h3
    exact ⟨h3, h2 L st i hS hP ht⟩
/-- Up to where a tag was trimmed. -/
def trimsD (t : Int) (s : Pl × Bool) (i : It) : Bool := i.kind == 2 && i.tag == t && (!s.2 || lessP s.1 i.upto)
def trimS (t : Int) (s : Pl × Bool) (i : It) : Pl × Bool := if trimsD t s i = true then (i.upto, true) else s
def trimD (L : List It) (t : Int) : Pl × Bool := L.foldl (trimS t) ((0, 0), false)
theorem trimD_snoc (L : List It) (i : It) (t : Int) : trimD (L ++ [i]) t = trimS t (trimD L t) i := by unfold trimD; rw [List.foldl_append]; rfl
theorem trim_same {L : List It} {st : XSt} (h : Same L st) : ∀ t, trimV st t = trimD L t := by
  refine Same.ind (P := fun L st => ∀ t, trimV st t = trimD L t) (fun _ => rfl) ?_ ?_ h
  · intro L st i ih hk t
    rw [trimD_snoc, ← ih t]
    have hf : trimsD t (trimV st t) i = false := by unfold trimsD; rw [keeps_kind hk]; rfl
    unfold trimS
    rw [hf]
    rfl
  · intro L st i ih ht t
    rw [trimD_snoc, ← ih t]
    have hk := trims_kind ht
    unfold trimS trimsD
    rw [hk]
    show trimV (trimX st i) t = _
    by_cases e : i.tag = t
    · subst e
      unfold trimV trimX
      simp only
      cases hg : getA i.tag st.tr with
      | none => simp [getA_put]
      | some u =>
        by_cases hl : lessP u i.upto = true
        · simp [hl, getA_put]
        · simp [hl, hg]
    · have e1 : (i.tag == t) = false := by simpa using e
      have e2 : ¬ t = i.tag := fun h => e h.symm
      have key : getA t (trimX st i).tr = getA t st.tr := by
        unfold trimX
        simp only
        cases getA i.tag st.tr with
        | none => simp only [getA_put, if_neg e2]
        | some u =>
          simp only
          split
          · rw [getA_put, if_neg e2]
          · rfl
      have e3 : trimV (trimX st i) t = trimV st t := by
        unfold trimV
        rw [key]
      rw [e1, e3]
      simp
/-- The records that are the first ones of their ids. -/
def firstD (L : List It) (i : It) : Bool := i.kind == 1 && (findD L i.r.id).1 == i.seq
def rowI (i : It) : Rw := ⟨i.seq, i.r⟩
theorem keeps_less {st : XSt} {i : It} (h : keepsX st i = true) : lessP st.last i.seq = true := by
  unfold keepsX at h
  simp only [Bool.and_eq_true] at h
  exact h.2
theorem rows_same {L : List It} {st : XSt} (h : Same L st) : (L.filter (firstD L)).map rowI = st.rows := by
  refine (Same.ind' (P := fun L st => (∀ j ∈ L, j.kind = 1 → lessP st.last j.seq = false) ∧ (L.filter (firstD L)).map rowI = st.rows) ⟨(fun _ h => by cases h), rfl⟩ ?_ ?_ h).2
  · rintro L st i hS ⟨h1, h2⟩ hk
    have hkk := keeps_kind hk
    have hl := keeps_less hk
    have hids := same_ids hS
    refine ⟨fun j hj hj1 => ?_, ?_⟩
    · show lessP i.seq j.seq = false
      rcases List.mem_append.1 hj with hj | hj
      · have := h1 j hj hj1
        rw [← Bool.not_eq_true] at *
        intro h3
        exact this (less_trans hl h3)
      · simp at hj
        rw [hj, less_irr]
    · have e1 : L.filter (firstD (L ++ [i])) = L.filter (firstD L) := by
        refine List.filter_congr fun j hj => ?_
        unfold firstD
        by_cases hj1 : j.kind = 1
        · have : (L.find? (isId j.r.id)).isSome = true := List.find?_isSome.2 ⟨j, hj, isId_iff.2 ⟨hj1, rfl⟩⟩
          obtain ⟨q, hq⟩ := Option.isSome_iff_exists.1 this
          unfold findD
          rw [List.find?_append, hq]
          rfl
        · rw [show (j.kind == 1) = false by simpa using hj1]
          rfl
      rw [List.filter_append, List.map_append, e1, h2]
      show _ = (addX st i).rows
      by_cases hr : st.rows.any (fun w => w.r.id == i.r.id) = true
      · have hg := getA_ids st.rows i.r.id
        rw [hr, hids] at hg
        have : (L.find? (isId i.r.id)).isSome = true := by rw [← hg]; simp
        obtain ⟨q, hq⟩ := Option.isSome_iff_exists.1 this
        have hq1 := isId_iff.1 (List.find?_some hq)
        have hql := h1 q (List.mem_of_find?_eq_some hq) hq1.1
        have hf : firstD (L ++ [i]) i = false := by
          unfold firstD findD
          rw [List.find?_append, hq]
          simp only [Option.some_or, Bool.and_eq_false_iff, beq_eq_false_iff_ne, ne_eq]
          refine .inr fun e => ?_
          rw [e, hl] at hql
          cases hql
        rw [List.filter_cons, hf]
        simp [addX, hr]
      · have hg := getA_ids st.rows i.r.id
        simp only [Bool.not_eq_true] at hr
        rw [hr, hids] at hg
        have hn : L.find? (isId i.r.id) = none := by
          cases hq : L.find? (isId i.r.id) with
          | none => rfl
          | some q => rw [hq] at hg; cases hg
        have hf : firstD (L ++ [i]) i = true := by
          unfold firstD findD
          rw [List.find?_append, hn, List.find?_cons_of_pos (isId_iff.2 ⟨hkk, rfl⟩)]
          simp [hkk]
        rw [List.filter_cons, hf]
        simp [addX, hr, rowI]
  · rintro L st i hS ⟨h1, h2⟩ ht
    have hk := trims_kind ht
    refine ⟨fun j hj hj1 => ?_, ?_⟩
    · rcases List.mem_append.1 hj with hj | hj
      · exact h1 j hj hj1
      · simp at hj
        subst hj
        omega
    · have e1 : ∀ id, findD (L ++ [i]) id = findD L id := fun id => by
        unfold findD
        rw [List.find?_append, List.find?_cons_of_neg (fun h => by have := (isId_iff.1 h).1; omega), List.find?_nil, Option.or_none]
      have e2 : firstD (L ++ [i]) = firstD L := by
        funext j
        unfold firstD
        rw [e1]
      have hf : firstD L i = false := by unfold firstD; rw [hk]; rfl
      rw [e2, List.filter_append, List.filter_cons, hf]
      refine Eq.trans ?_ h2
      simp
/-- The records that count. -/
def okD (s : Pl × Bool) (p : Pl) : Bool := !s.2 || lessP s.1 p
def countsD (L : List It) (t : Int) (i : It) : Bool := i.kind == 1 && hasR i.r t && ((findD L i.r.id).1 == i.seq && okD (trimD L t) i.seq && okD (trimD L 0) i.seq)
def countD (L : List It) (t : Int) : List It := L.filter (countsD L t)
theorem behind_ok (st : XSt) (t : Int) (a : Pl) : behindX st t a = okD (trimV st t) a := by
  unfold behindX okD trimV
  cases getA t st.tr <;> rfl
theorem count_same {L : List It} {st : XSt} (h : Same L st) (t : Int) : (countD L t).map rowI = countX st t := by
  unfold countX tagX
  rw [← rows_same h, List.filter_map, List.filter_map, List.filter_filter, List.filter_filter]
  unfold countD
  congr 1
  refine List.filter_congr fun i _ => ?_
  unfold countsD firstD bothX
  simp only [Function.comp, rowI, behind_ok, trim_same h]
  rw [Bool.eq_iff_iff]
  simp only [Bool.and_eq_true]
  constructor
  · rintro ⟨⟨a, b⟩, ⟨c, d⟩, e⟩
    exact ⟨⟨⟨d, e⟩, b⟩, a, c⟩
  · rintro ⟨⟨⟨d, e⟩, b⟩, a, c⟩
    exact ⟨⟨a, b⟩, ⟨c, d⟩, e⟩
/-- Next, Prev, Range. -/
def nextD (L : List It) (t : Int) (a : Pl) : Option It := (countD L t).find? fun i => !lessP i.seq a
def prevD (L : List It) (t : Int) (a : Pl) : Option It := ((countD L t).filter fun i => lessP i.seq a).getLast?
def rangeD (L : List It) (t : Int) (a b : Pl) : List Pl := ((countD L t).filter fun i => !lessP i.seq a && lessP i.seq b).map (·.seq)
theorem next_same {L : List It} {st : XSt} (h : Same L st) (hg : GoodX st) (t : Int) (a : Pl) : (nextD L t a).map rowI = nextX st t a := by
  unfold nextX at? nextD
  rw [if_neg (by omega), Int.toNat_natCast, ← List.head?_drop, (firstN_parts (good_count hg t) a).1, List.head?_filter, ← count_same h t, List.find?_map]
  rfl
theorem prev_same {L : List It} {st : XSt} (h : Same L st) (hg : GoodX st) (t : Int) (a : Pl) : (prevD L t a).map rowI = prevX st t a := by
  have e : (prevD L t a).map rowI = ((countX st t).filter fun w => lessP w.pl a).getLast? := by
    unfold prevD
    rw [← count_same h t, List.filter_map, List.getLast?_map]
    rfl
  rw [e, ← (firstN_parts (good_count hg t) a).2, List.getLast?_take]
  have hle := firstN_le (countX st t) a
  unfold prevX at?
  by_cases h0 : firstN (countX st t) a = 0
  · rw [if_pos h0, if_pos (by omega)]
  · rw [if_neg h0, if_neg (by omega), show (((firstN (countX st t) a : Nat) : Int) - 1).toNat = firstN (countX st t) a - 1 by omega]
    rw [List.getElem?_eq_getElem (by omega)]
    rfl
theorem range_same {L : List It} {st : XSt} (h : Same L st) (t : Int) (a b : Pl) : rangeD L t a b = rangeX st t a b := by
  unfold rangeX rangeR rangeD
  rw [← count_same h t, List.filter_map, List.map_map]
  rfl
end Go.Proofs.Ytpcocmdhdnfjcaa
