/- BookReads: what the reads answer (the plain lemmas of the two walks are chapter 17's, of XIWalks). -/
import Derived.Test.YtpdibjaeopcimaaKi
import Derived.Test.YtpdibjaeopcimaaKj
import Derived.Test.YtpdibjaeopcimaaIn
import Derived.Test.YtpdibjaeopcimaaIt
set_option linter.unusedVariables false
set_option linter.unusedSimpArgs false
namespace Go.Proofs.Ytpdibjaeopcimaa
open Go.RowKit

/-- Where the first loop stands behind j rounds. -/
def atN (l : List Pl) (j : Nat) : Pl := match j with
  | 0 => (0, 0)
  | j + 1 => ((l.getD j (0, 0)).1, (l.getD j (0, 0)).2 + 1)
theorem atN_succ (l : List Pl) (j : Nat) : atN l (j + 1) = ((l.getD j (0, 0)).1, (l.getD j (0, 0)).2 + 1) := rfl
theorem less_next (a p : Pl) : lessP a (p.1, p.2 + 1) = !lessP p a := by
  rw [Bool.eq_iff_iff]
  simp only [less_iff, Bool.not_eq_true', ← Bool.not_eq_true]
  omega
theorem firstN_found {rl : List Rw} (h : rowsUp rl) {a : Pl} {k : Nat} (hk : k ≤ rl.length) (h1 : ∀ r, rl[k]? = some r → lessP r.pl a = false) (h2 : ∀ r, 0 < k → rl[k - 1]? = some r → lessP r.pl a = true) : firstN rl a = k := by
  refine (found_first h (a := a) (p := fun i => match rl[i]? with | some q => !lessP q.pl a | none => false) (k := k) (fun i q hq => by simp only [hq]) ⟨hk, fun hl => ?_, fun h0 => ?_⟩).symm
  · obtain ⟨q, hq⟩ : ∃ q, rl[k]? = some q := ⟨_, List.getElem?_eq_getElem hl⟩
    simp only [hq, h1 q hq]
    rfl
  · obtain ⟨q, hq⟩ : ∃ q, rl[k - 1]? = some q := ⟨_, List.getElem?_eq_getElem (by omega)⟩
    simp only [hq, h2 q h0 hq]
    rfl
theorem all_get {st : XSt} {t : Int} {j : Nat} {r : Rw} (h : (countX st t)[j]? = some r) : (allX st t)[j]? = some r.pl := by
  unfold allX
  rw [List.getElem?_map, h]
  rfl
theorem all_n (st : XSt) (t : Int) : (allX st t).length = (countX st t).length := by unfold allX; rw [List.length_map]
theorem walk_next {st : XSt} (hg : GoodX st) (t : Int) {j : Nat} (hj : j ≤ (allX st t).length) : nextX st t (atN (allX st t) j) = (countX st t)[j]? := by
  have e : firstN (countX st t) (atN (allX st t) j) = j := by
    refine firstN_found (good_count hg t) (by rw [← all_n]; exact hj) (fun r hr => ?_) (fun r h0 hr => ?_)
    · cases j with
      | zero =>
        have h2 := hg.ge r (mem_count.1 (List.mem_of_getElem? hr)).1
        rw [← Bool.not_eq_true, less_iff]
        unfold atN
        simp only
        omega
      | succ j =>
        have hl := (List.getElem?_eq_some_iff.1 hr).1
        obtain ⟨q, hq⟩ : ∃ q, (countX st t)[j]? = some q := ⟨_, List.getElem?_eq_getElem (by omega)⟩
        have e1 : (allX st t).getD j (0, 0) = q.pl := by rw [List.getD_eq_getElem?_getD, all_get hq]; rfl
        rw [atN_succ, e1, less_next]
        have h1 := List.pairwise_iff_getElem.1 (good_count hg t) j (j + 1) (by omega) hl (by omega)
        have e2 : (countX st t)[j] = q := by have := List.getElem?_eq_getElem (show j < (countX st t).length by omega); rw [hq] at this; exact (Option.some.inj this).symm
        have e3 : (countX st t)[j + 1] = r := by have := List.getElem?_eq_getElem hl; rw [hr] at this; exact (Option.some.inj this).symm
        rw [e2, e3] at h1
        rw [h1]
        rfl
    · cases j with
      | zero => omega
      | succ j =>
        rw [Nat.add_sub_cancel] at hr
        have e1 : (allX st t).getD j (0, 0) = r.pl := by rw [List.getD_eq_getElem?_getD, all_get hr]; rfl
        rw [atN_succ, e1, less_next, less_irr]
        rfl
  unfold nextX at?
  rw [e, if_neg (by omega), show ((j : Int)).toNat = j by omega]
/-- Where the second loop stands, m being left. -/
def atP (l : List Pl) (m : Nat) : Pl := l.getD m topP
theorem walk_prev {st : XSt} (hg : GoodX st) (hl : lowX st) (t : Int) {m : Nat} (hm : m ≤ (allX st t).length) : prevX st t (atP (allX st t) m) = at? (countX st t) ((m : Int) - 1) := by
  have e : firstN (countX st t) (atP (allX st t) m) = m := by
    cases hr : (countX st t)[m]? with
    | some r =>
      have e1 : atP (allX st t) m = r.pl := by unfold atP; rw [List.getD_eq_getElem?_getD, all_get hr]; rfl
      rw [e1]
      exact firstN_at (good_count hg t) hr
    | none =>
      have hme : m = (countX st t).length := by have := List.getElem?_eq_none_iff.1 hr; rw [all_n] at hm; omega
      have e1 : atP (allX st t) m = topP := by unfold atP; rw [List.getD_eq_getElem?_getD, List.getElem?_eq_none (by rw [all_n]; omega)]; rfl
      rw [e1]
      refine firstN_found (good_count hg t) (by omega) (fun r h => by rw [h] at hr; cases hr) (fun r _ h => ?_)
      have h3 := hl r (mem_count.1 (List.mem_of_getElem? h)).1
      rw [less_iff]
      unfold topP
      simp only
      omega
  unfold prevX
  rw [e]
theorem atP_at {st : XSt} {t : Int} {m : Nat} {r : Rw} (h : (countX st t)[m]? = some r) : atP (allX st t) m = r.pl := by unfold atP; rw [List.getD_eq_getElem?_getD, all_get h]; rfl
theorem atN_at {st : XSt} {t : Int} {m : Nat} {r : Rw} (h : (countX st t)[m]? = some r) : atN (allX st t) (m + 1) = (r.pl.1, r.pl.2 + 1) := by rw [atN_succ, List.getD_eq_getElem?_getD, all_get h]; rfl
theorem wp_meas {k : Nat} (h : wrap64 ((k : Int) - 1) = (k : Int) - 1) : (intOf (.int .i64 (wrap64 ((k : Int) - 1))) + 1).toNat < (intOf (.int .i64 (k : Int)) + 1).toNat := by
  rw [h]
  simp only [intOf]
  omega
theorem wp_meas2 {k : Nat} : (intOf (.int .i64 ((k : Int) - 1)) + 1).toNat < (intOf (.int .i64 (k : Int)) + 1).toNat := by
  simp only [intOf]
  omega
theorem walk_up {st : XSt} (hg : GoodX st) {t : Int} {j : Nat} {r : Rw} (hr : (countX st t)[j]? = some r) : lessP r.pl (atN (allX st t) j) = false := by
  cases j with
  | zero =>
    have h2 := hg.ge r (mem_count.1 (List.mem_of_getElem? hr)).1
    rw [← Bool.not_eq_true, less_iff]
    unfold atN
    simp only
    omega
  | succ j =>
    have hl := (List.getElem?_eq_some_iff.1 hr).1
    obtain ⟨q, hq⟩ : ∃ q, (countX st t)[j]? = some q := ⟨_, List.getElem?_eq_getElem (by omega)⟩
    have e1 : (allX st t).getD j (0, 0) = q.pl := by rw [List.getD_eq_getElem?_getD, all_get hq]; rfl
    rw [atN_succ, e1, less_next]
    have h1 := List.pairwise_iff_getElem.1 (good_count hg t) j (j + 1) (by omega) hl (by omega)
    have e2 : (countX st t)[j] = q := by have := List.getElem?_eq_getElem (show j < (countX st t).length by omega); rw [hq] at this; exact (Option.some.inj this).symm
    have e3 : (countX st t)[j + 1] = r := by have := List.getElem?_eq_getElem hl; rw [hr] at this; exact (Option.some.inj this).symm
    rw [e2, e3] at h1
    rw [h1]
    rfl
/-- The places of a book's records. -/
def lsB (st : XSt) (b : Int) : List Pl := if inB b = true then allX st (1 + 1024 * b + 0) else []
theorem lsB_t {st : XSt} {b : Int} (h : inB b = true) : lsB st b = allX st (1 + 1024 * b + 0) := if_pos h
theorem lsB_f {st : XSt} {b : Int} (h : ¬ inB b = true) : lsB st b = [] := if_neg h
theorem lsB_len (st : XSt) (b : Int) : (lsB st b).length ≤ st.rows.length := by
  unfold lsB
  split
  · rw [all_n]
    unfold countX tagX
    exact Nat.le_trans (List.length_filter_le _ _) (List.length_filter_le _ _)
  · exact Nat.zero_le _
theorem lsB_up {st : XSt} (hg : GoodX st) {b : Int} {j : Nat} {s : Pl} (h : (lsB st b)[j]? = some s) : lessP s (atN (lsB st b) j) = false := by
  by_cases hB : inB b = true
  · rw [lsB_t hB] at h ⊢
    obtain ⟨r, hr, rfl⟩ := all_at h
    exact walk_up hg hr
  · rw [lsB_f hB] at h
    cases h
theorem lsB_low {st : XSt} (hg : GoodX st) (hl : lowX st) {b : Int} {j : Nat} {s : Pl} (h : (lsB st b)[j]? = some s) : 0 ≤ s.2 ∧ s.2 ≤ 1125899906842624 := by
  by_cases hB : inB b = true
  · rw [lsB_t hB] at h
    obtain ⟨r, hr, rfl⟩ := all_at h
    have h2 := hg.ge r (mem_count.1 (List.mem_of_getElem? hr)).1
    have h3 := hl r (mem_count.1 (List.mem_of_getElem? hr)).1
    exact ⟨h2.2, h3.2⟩
  · rw [lsB_f hB] at h
    cases h
/-- What the items that are records leave. -/
structure BkOk (st : XSt) (n : Nat) : Prop where
  tr : st.tr = []
  low : lowX st
  rows : st.rows.length ≤ n
  app : st.applied ≤ n
theorem BkOk.zero : BkOk xst0 0 := ⟨rfl, low0, Nat.le_refl _, Nat.le_refl _⟩
theorem BkOk.more {st : XSt} {n : Nat} (h : BkOk st n) : BkOk st (n + 1) := ⟨h.tr, h.low, Nat.le_succ_of_le h.rows, Nat.le_succ_of_le h.app⟩
theorem BkOk.step {st : XSt} {n : Nat} (h : BkOk st n) {i : It} (hk : i.kind = 1) (hi : lowI i) : BkOk (applyX st i).1 (n + 1) := by
  have hl := low_apply h.low hi
  have hr := h.rows
  have ha := h.app
  have ht : trimsX i = false := by unfold trimsX; rw [hk]; rfl
  revert hl
  unfold applyX
  rw [ht]
  split
  · intro hl
    refine ⟨h.tr, hl, ?_, ?_⟩
    · unfold incX addX
      simp only
      split
      · omega
      · simp; omega
    · unfold incX addX
      simp only
      omega
  · intro hl
    exact h.more
theorem gone_no {st : XSt} (h : st.tr = []) (t : Int) (a : Pl) : goneX st t a = false := by unfold goneX trimV; rw [h]; rfl
theorem ask_no (o : Option Rw) : askE false o = (o, if o.isSome = true then 0 else 190) := rfl
theorem rd_next {w : World} {G : Nat → Prop} {W : World} {eb x sb : Nat} {st : XSt} (hA : Asks w G W eb x sb 0 0 0 0 0 0 st) (htr : st.tr = []) (b : Int) {j : Nat} (hj : j ≤ (lsB st b).length) {a : Pl} (ha : atN (lsB st b) j = a) :
    Calls Try.prog 15 #[.pointer (some ⟨eb, 0, none⟩), .pointer (some ⟨sb, 0, none⟩), .int .i64 b, .int .i64 0, plV a] W fun e w' => ∃ (R : Rw) (tv : Value) (code : Int), e = .returned (.tuple #[recV R.r tv, plV R.pl, .int .i64 code]) ∧ VRow (fun _ => True) 1 intO w' tv R.r.tags ∧
      (∀ s, (lsB st b)[j]? = some s → code = 0 ∧ R.pl = s) ∧ (j = (lsB st b).length → (code != 0) = true) ∧ Sn.Ses w' sb 0 0 0 0 ∧ Ch (· = sb) W w' := by
  by_cases hB : inB b = true
  · rw [lsB_t hB] at hj ha ⊢
    subst ha
    refine (enext_any b 0 (atN (allX st (1 + 1024 * b + 0)) j) hA hB rfl).mono ?_
    rintro e w' ⟨tv, rfl, htv, hA'⟩
    refine ⟨_, tv, _, rfl, htv.mono fun _ _ _ => trivial, fun s hs => ?_, fun hj => ?_, hA'.ses, hA'.ch⟩
    · obtain ⟨r, hr, rfl⟩ := all_at hs
      unfold nextE
      rw [gone_no htr, gone_no htr, walk_next hA.run.run.good _ hj, hr]
      exact ⟨rfl, rfl⟩
    · have hr : (countX st (1 + 1024 * b + 0))[j]? = none := List.getElem?_eq_none (by rw [hj, all_n]; exact Nat.le_refl _)
      unfold nextE
      rw [gone_no htr, gone_no htr, walk_next hA.run.run.good _ (Nat.le_of_eq hj), hr]
      rfl
  · rw [lsB_f hB]
    refine (enext_bad b 0 a (by rw [tagD_f1 (by simpa using hB)])).mono ?_
    rintro e w' ⟨rfl, hb⟩
    exact ⟨rw0, .slice none 0 0, 1, rfl, VRow.nil _ _, fun s hs => (by cases hs), fun _ => rfl, Blk.below hA.ses hb, Ch.of_below _ hb⟩
theorem rd_prev {w : World} {G : Nat → Prop} {W : World} {eb x sb : Nat} {st : XSt} (hA : Asks w G W eb x sb 0 0 0 0 0 0 st) (hl : lowX st) (b : Int) {m : Nat} (hm : m ≤ (lsB st b).length) {a : Pl} (ha : atP (lsB st b) m = a) :
    Calls Try.prog 19 #[.pointer (some ⟨eb, 0, none⟩), .pointer (some ⟨sb, 0, none⟩), .int .i64 b, .int .i64 0, plV a] W fun e w' => ∃ (R : Rw) (tv : Value) (code : Int), e = .returned (.tuple #[recV R.r tv, plV R.pl, .int .i64 code]) ∧ VRow (fun _ => True) 1 intO w' tv R.r.tags ∧
      (∀ k s, m = k + 1 → (lsB st b)[k]? = some s → code = 0 ∧ R.pl = s) ∧ (m = 0 → (code != 0) = true) ∧ Sn.Ses w' sb 0 0 0 0 ∧ Ch (· = sb) W w' := by
  by_cases hB : inB b = true
  · rw [lsB_t hB] at hm ha ⊢
    subst ha
    refine (eprev_any b 0 (atP (allX st (1 + 1024 * b + 0)) m) hA hB rfl).mono ?_
    rintro e w' ⟨tv, rfl, htv, hA'⟩
    have hp := walk_prev hA.run.run.good hl (1 + 1024 * b + 0) hm
    refine ⟨_, tv, _, rfl, htv.mono fun _ _ _ => trivial, fun k s hk hs => ?_, fun h0 => ?_, hA'.ses, hA'.ch⟩
    · obtain ⟨r, hr, rfl⟩ := all_at hs
      subst hk
      unfold prevE
      rw [hp]
      unfold at?
      rw [if_neg (by omega), show (((k + 1 : Nat) : Int) - 1).toNat = k by omega, hr]
      exact ⟨rfl, rfl⟩
    · subst h0
      unfold prevE
      rw [hp]
      rfl
  · rw [lsB_f hB]
    refine (eprev_bad b 0 a (by rw [tagD_f1 (by simpa using hB)])).mono ?_
    rintro e w' ⟨rfl, hb⟩
    exact ⟨rw0, .slice none 0 0, 1, rfl, VRow.nil _ _, fun k s _ hs => (by cases hs), fun _ => rfl, Blk.below hA.ses hb, Ch.of_below _ hb⟩
theorem rd_tail {w : World} {G : Nat → Prop} {W : World} {eb x sb : Nat} {st : XSt} (hA : Asks w G W eb x sb 0 0 0 0 0 0 st) (b : Int) :
    Calls Try.prog 14 #[.pointer (some ⟨eb, 0, none⟩), .pointer (some ⟨sb, 0, none⟩), .int .i64 b, .int .i64 0] W fun e w' => ∃ (p : Pl) (code : Int), e = .returned (.tuple #[plV p, .int .i64 code]) ∧
      (∀ k s, (lsB st b).length = k + 1 → (lsB st b)[k]? = some s → code = 0 ∧ p = s) ∧ ((lsB st b).length = 0 → (code == 0) = false) ∧ Sn.Ses w' sb 0 0 0 0 ∧ Ch (· = sb) W w' := by
  by_cases hB : inB b = true
  · rw [lsB_t hB]
    refine (etail_any b 0 hA hB rfl).mono ?_
    rintro e w' ⟨rfl, hA'⟩
    refine ⟨_, _, rfl, fun k s hk hs => ?_, fun h0 => ?_, hA'.ses, hA'.ch⟩
    · obtain ⟨r, hr, rfl⟩ := all_at hs
      rw [all_n] at hk
      unfold tailX at?
      rw [hk, if_neg (show ¬ (((k + 1 : Nat) : Int) - 1 < 0) by omega), show (((k + 1 : Nat) : Int) - 1).toNat = k by omega, hr]
      exact ⟨rfl, rfl⟩
    · rw [all_n] at h0
      unfold tailX at?
      rw [h0, if_pos (show (((0 : Nat) : Int) - 1 < 0) by omega)]
      rfl
  · rw [lsB_f hB]
    refine (etail_bad b 0 (by rw [tagD_f1 (by simpa using hB)])).mono ?_
    rintro e w' ⟨rfl, hb⟩
    exact ⟨(0, 0), 1, rfl, fun k s _ hs => (by cases hs), fun _ => rfl, Blk.below hA.ses hb, Ch.of_below _ hb⟩
end Go.Proofs.Ytpdibjaeopcimaa
