/- index's laws: plain words on what is gone, what stays. -/
import Derived.Test.YtpdibjaeopcimaaIm
set_option linter.unusedVariables false
set_option linter.unusedSimpArgs false
namespace Go.Proofs.Ytpdibjaeopcimaa
open Go.RowKit

def topP : Pl := (1152921504606846976, 0)
def lowX (st : XSt) : Prop := ∀ w ∈ st.rows, w.pl.1 ≤ 1125899906842624 ∧ w.pl.2 ≤ 1125899906842624
/-- All that count. -/
def allX (st : XSt) (t : Int) : List Pl := (countX st t).map (·.pl)
theorem mem_count {st : XSt} {t : Int} {r : Rw} : r ∈ countX st t ↔ r ∈ st.rows ∧ hasR r.r t = true ∧ bothX st t r.pl = true := by
  unfold countX tagX
  rw [List.mem_filter, List.mem_filter]
  exact and_assoc
theorem range_all {st : XSt} (hg : GoodX st) (hl : lowX st) (t : Int) : rangeX st t (0, 0) topP = allX st t := by
  unfold rangeX allX rangeR
  congr 1
  apply List.filter_eq_self.2
  intro r hr
  have h1 := (mem_count.1 hr).1
  have h2 := hg.ge r h1
  have h3 := hl r h1
  have e1 : lessP r.pl (0, 0) = false := by rw [← Bool.not_eq_true, less_iff]; simp only; omega
  have e2 : lessP r.pl topP = true := by rw [less_iff]; unfold topP; simp only; omega
  rw [e1, e2]
  rfl
theorem low0 : lowX xst0 := fun _ h => by cases h
theorem low_apply {st : XSt} (h : lowX st) {i : It} (hi : lowI i) : lowX (applyX st i).1 := by
  unfold applyX
  split
  · unfold incX addX
    simp only
    split
    · exact h
    · intro w hw
      rcases List.mem_append.1 hw with hw | hw
      · exact h w hw
      · simp at hw
        subst hw
        exact hi
  · split
    · exact h
    · exact h
theorem apply_len (st : XSt) (i : It) : (applyX st i).1.rows.length ≤ st.rows.length + 1 ∧ (applyX st i).1.applied ≤ st.applied + 1 := by
  unfold applyX
  split
  · unfold incX addX
    simp only
    split
    · exact ⟨by omega, Nat.le_refl _⟩
    · simp
  · split
    · exact ⟨by simp [incX, trimX], by simp [incX, trimX]⟩
    · exact ⟨Nat.le_succ _, Nat.le_succ _⟩
theorem behind_trim {st : XSt} {i : It} {t : Int} {a : Pl} (h : behindX (trimX st i) t a = true) : behindX st t a = true := by
  unfold behindX at *
  cases hs : getA t st.tr with
  | none => rfl
  | some u =>
    simp only
    unfold trimX at h
    simp only at h
    cases hg : getA i.tag st.tr with
    | none =>
      rw [hg] at h
      simp only at h
      rw [getA_put] at h
      by_cases e : t = i.tag
      · subst e
        rw [hs] at hg
        cases hg
      · rw [if_neg e, hs] at h
        exact h
    | some v =>
      rw [hg] at h
      simp only at h
      by_cases hv : lessP v i.upto = true
      · rw [if_pos hv, getA_put] at h
        by_cases e : t = i.tag
        · subst e
          rw [hs] at hg
          cases hg
          rw [if_pos rfl] at h
          exact less_trans hv h
        · rw [if_neg e, hs] at h
          exact h
      · rw [if_neg hv, hs] at h
        exact h
theorem behind_trim_other {st : XSt} {i : It} {t : Int} {a : Pl} (ht : t ≠ i.tag) : behindX (trimX st i) t a = behindX st t a := by
  have e : getA t (trimX st i).tr = getA t st.tr := by
    unfold trimX
    simp only
    cases hg : getA i.tag st.tr with
    | none => simp only; rw [getA_put, if_neg ht]
    | some v =>
      simp only
      by_cases hv : lessP v i.upto = true
      · rw [if_pos hv, getA_put, if_neg ht]
      · rw [if_neg hv]
  unfold behindX
  rw [e]
/-- What counts behind an item counted ahead of it, or is new. -/
theorem count_back {st : XSt} (i : It) {t : Int} {r : Rw} (h : r ∈ countX (applyX st i).1 t) : r ∈ countX st t ∨ (keepsX st i = true ∧ r.pl = i.seq) := by
  rw [mem_count] at h
  obtain ⟨h1, h2, h3⟩ := h
  unfold applyX at h1 h3
  split at h1
  · rename_i hk
    rw [if_pos hk] at h3
    unfold incX addX at h1
    simp only at h1
    split at h1
    · exact .inl (mem_count.2 ⟨h1, h2, h3⟩)
    · rcases List.mem_append.1 h1 with h1 | h1
      · exact .inl (mem_count.2 ⟨h1, h2, h3⟩)
      · simp at h1
        exact .inr ⟨hk, by rw [h1]⟩
  · rename_i hk
    rw [if_neg hk] at h3
    split at h1
    · rename_i ht
      rw [if_pos ht] at h3
      refine .inl (mem_count.2 ⟨h1, h2, ?_⟩)
      have h4 : behindX (trimX st i) t r.pl = true ∧ behindX (trimX st i) 0 r.pl = true := by
        have h5 := h3
        unfold bothX at h5
        simp only [Bool.and_eq_true] at h5
        exact h5
      unfold bothX
      rw [behind_trim h4.1, behind_trim h4.2]
      rfl
    · rename_i ht
      rw [if_neg ht] at h3
      exact .inl (mem_count.2 ⟨h1, h2, h3⟩)
theorem last_up (st : XSt) (i : It) {s : Pl} (h : lessP st.last s = false) : lessP (applyX st i).1.last s = false := by
  unfold applyX
  split
  · rename_i hk
    unfold keepsX at hk
    simp only [Bool.and_eq_true] at hk
    show lessP i.seq s = false
    rw [← Bool.not_eq_true]
    intro e
    rw [less_trans hk.2 e] at h
    cases h
  · split
    · exact h
    · exact h
/-- Places that counted, and don't any more. -/
def GoneInv (st : XSt) (t : Int) (gone : List Pl) : Prop := ∀ s ∈ gone, lessP st.last s = false ∧ s ∉ allX st t
theorem gone_apply {st : XSt} {t : Int} {gone : List Pl} (h : GoneInv st t gone) (i : It) : GoneInv (applyX st i).1 t gone := by
  intro s hs
  obtain ⟨h1, h2⟩ := h s hs
  refine ⟨last_up st i h1, fun hm => ?_⟩
  obtain ⟨r, hr, rfl⟩ := List.mem_map.1 hm
  rcases count_back i hr with hr | ⟨hk, e⟩
  · exact h2 (List.mem_map.2 ⟨r, hr, rfl⟩)
  · unfold keepsX at hk
    simp only [Bool.and_eq_true] at hk
    rw [← e, h1] at hk
    simp at hk
theorem gone_more {st : XSt} (hg : GoodX st) {t : Int} {gone : List Pl} (i : It) (h : GoneInv (applyX st i).1 t gone) {s : Pl} (hs : s ∈ allX st t) (hn : s ∉ allX (applyX st i).1 t) : GoneInv (applyX st i).1 t (gone ++ [s]) := by
  intro u hu
  rcases List.mem_append.1 hu with hu | hu
  · exact h u hu
  · simp at hu
    subst hu
    refine ⟨last_up st i ?_, hn⟩
    obtain ⟨r, hr, rfl⟩ := List.mem_map.1 hs
    exact hg.top r (mem_count.1 hr).1
theorem gone_trim {st : XSt} {t : Int} {i : It} {s : Pl} (hs : s ∈ allX st t) (hn : s ∉ allX (applyX st i).1 t) : i.kind = 2 ∧ (i.tag = t ∨ i.tag = 0) := by
  obtain ⟨r, hr, rfl⟩ := List.mem_map.1 hs
  obtain ⟨h1, h2, h3⟩ := mem_count.1 hr
  have hn' : ¬ r ∈ countX (applyX st i).1 t := fun e => hn (List.mem_map.2 ⟨r, e, rfl⟩)
  rw [mem_count] at hn'
  unfold applyX at hn'
  split at hn'
  · exfalso
    apply hn'
    refine ⟨?_, h2, h3⟩
    unfold incX addX
    simp only
    split
    · exact h1
    · exact List.mem_append.2 (.inl h1)
  · split at hn'
    · rename_i hk ht
      unfold trimsX at ht
      simp only [Bool.and_eq_true, beq_iff_eq] at ht
      refine ⟨ht.1, ?_⟩
      by_cases e1 : i.tag = t
      · exact .inl e1
      · by_cases e2 : i.tag = 0
        · exact .inr e2
        · exfalso
          apply hn'
          refine ⟨h1, h2, ?_⟩
          show (behindX (trimX st i) t r.pl && behindX (trimX st i) 0 r.pl) = true
          rw [behind_trim_other (Ne.symm e1), behind_trim_other (Ne.symm e2)]
          exact h3
    · exact absurd ⟨h1, h2, h3⟩ hn'
theorem all_len (st : XSt) (t : Int) : (allX st t).length ≤ st.rows.length := by
  unfold allX
  rw [List.length_map]
  exact count_len st t
theorem Run.grown {w : World} {G S : Nat → Prop} {w1 w2 : World} {x : Nat} {st : XSt} (h : Run w G w1 x st) (hc : Ch S w1 w2) (hS : ∀ k, S k → G k ∧ w.heap.size ≤ k) : ∃ G', Run w G' w2 x st ∧ (∀ k, G k → G' k) ∧ (∀ k, w1.heap.size ≤ k → k < w2.heap.size → G' k) :=
  ⟨_, ⟨h.ix.ch hc (fun k e => (hS k e).1), h.good, fun k hk => .inl (h.old k hk), Ch.below ((Ch.of_below (fun _ => False) h.ch).step hc (fun k hk e => by have := (hS k e).2; omega))⟩, fun _ e => .inl e, fun _ h1 h2 => .inr ⟨h1, h2⟩⟩
end Go.Proofs.Ytpdibjaeopcimaa
