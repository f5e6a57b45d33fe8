/- 'does' and the reference's Do do and tell the same. -/
import Derived.Test.YtjilfmphdncapaaSesDo2
set_option linter.unusedVariables false
set_option linter.unusedSimpArgs false
namespace Go.Proofs.Ytjilfmphdncapaa
open Go.RowKit

theorem set_same {α : Type} {l : List α} {i : Nat} {x : α} (h : l[i]? = some x) : l.set i x = l := by
  obtain ⟨hi, rfl⟩ := List.getElem?_eq_some_iff.1 h
  exact List.set_getElem_self hi
theorem doF_some {l : List Sn} {o : OpD} {i : Nat} {s : Sn} (hi : o.who = (i : Int)) (h : l[i]? = some s) : doF l o = doOn l i s o := by
  unfold doF
  rw [if_pos (by omega), hi]
  simp only [Int.toNat_natCast, h]

/-- The sessions' numbers are small. -/
def Small (k : Int) (sts : List Sn) : Prop := ∀ s ∈ sts, 0 ≤ s.m ∧ s.m ≤ k

set_option maxRecDepth 100000 in
theorem does_any (base : Nat) (v : Value) (bs : List Nat) (sts : List Sn) (o : OpD) (w : World) (h : SesRow w base v bs sts) (hl : sts.length ≤ 1000) (hbase : base ≤ w.heap.size) (hm : Small 1000 sts) :
    Calls Try.prog 14 #[v, .agg o.cells] w (DoesPost base v bs (doF sts o) w) := by
  by_cases hn : o.who < 0 ∨ (sts.length : Int) ≤ o.who
  · exact does_none base v bs sts o w h hn hl
  · obtain ⟨i, hi⟩ : ∃ i : Nat, o.who = (i : Int) := ⟨o.who.toNat, by omega⟩
    have hlt : i < sts.length := by omega
    have hs : sts[i]? = some sts[i] := List.getElem?_eq_getElem hlt
    obtain ⟨s, hse⟩ : ∃ s, s = sts[i] := ⟨_, rfl⟩
    rw [← hse] at hs
    obtain ⟨hm0, hm1⟩ := hm s (List.mem_of_getElem? hs)
    clear hse
    rw [doF_some hi hs]
    obtain ⟨k, who, x, a1, a2⟩ := o
    simp only at hi
    subst hi
    unfold doOn
    by_cases k0 : k = 0
    · subst k0; rw [if_pos rfl]; exact does_read base v bs sts i s x a1 a2 w h hs hl
    rw [if_neg k0]
    by_cases k1 : k = 1
    · subst k1; rw [if_pos rfl]; exact does_wrote base v bs sts i s x a1 a2 w h hs hl
    rw [if_neg k1]
    by_cases k2 : k = 2
    · subst k2; rw [if_pos rfl]; exact does_id base v bs sts i s x a1 a2 w h hs hl hm0 (by omega)
    rw [if_neg k2]
    by_cases k3 : k = 3
    · subst k3; rw [if_pos rfl]
      cases hx : decide (0 ≤ x) && decide (x ≤ 1099511627776) with
      | true =>
        rw [if_pos rfl]
        simp at hx
        exact does_fork base v bs sts i s x a1 a2 w h hs hl hbase hx.1 hx.2
      | false =>
        rw [if_neg (by decide)]
        exact does_fork_bad base v bs sts i s x a1 a2 w h hs hl hx
    rw [if_neg k3]
    by_cases k4 : k = 4
    · subst k4; rw [if_pos rfl]
      by_cases hx : 0 ≤ x
      · rw [if_pos hx]
        obtain ⟨j, rfl⟩ : ∃ j : Nat, x = (j : Int) := ⟨x.toNat, by omega⟩
        simp only [Int.toNat_natCast]
        cases hj : sts[j]? with
        | none =>
          have := List.getElem?_eq_none_iff.1 hj
          exact does_join_out base v bs sts i s j a1 a2 w h hs hl (by omega)
        | some s2 => exact does_join base v bs sts i s j s2 j a1 a2 w h hs hl hj rfl
      · rw [if_neg hx]
        exact does_join_neg base v bs sts i s x a1 a2 w h hs hl (by omega)
    rw [if_neg k4]
    exact does_other base v bs sts i s k x a1 a2 w h hs hl ⟨k0, k1, k2, k3, k4⟩

theorem readE_cases (t n a1 a2 : Int) : (rightB a1 a2 = false ∧ readE t n a1 a2 = 1 ∧ readT t n a1 a2 = t ∧ readN t n a1 a2 = n) ∨ (rightB a1 a2 = true ∧ lessB a1 a2 t n = true ∧ readE t n a1 a2 = 180 ∧ readT t n a1 a2 = t ∧ readN t n a1 a2 = n) ∨
    (rightB a1 a2 = true ∧ lessB a1 a2 t n = false ∧ readE t n a1 a2 = 0 ∧ readT t n a1 a2 = maxT t n a1 a2 ∧ readN t n a1 a2 = maxN t n a1 a2) := by
  cases h : rightB a1 a2 <;> cases h2 : lessB a1 a2 t n <;> simp [readE, readT, readN, h, h2]

set_option maxRecDepth 100000 in
theorem do_any (base : Nat) (v : Value) (sts : List Sn) (o : OpD) (w : World) (h : RefRow w base v sts) (hl : sts.length ≤ 1000) (hbase : base ≤ w.heap.size) (hm : Small 1000 sts) :
    Calls Try.prog 13 #[v, .agg o.cells] w (DoPost base (doF sts o) w) := by
  by_cases hn : o.who < 0 ∨ (sts.length : Int) ≤ o.who
  · rw [doF_none hn]; exact do_none base v sts o w h hn hl
  · obtain ⟨i, hi⟩ : ∃ i : Nat, o.who = (i : Int) := ⟨o.who.toNat, by omega⟩
    have hlt : i < sts.length := by omega
    have hs : sts[i]? = some sts[i] := List.getElem?_eq_getElem hlt
    obtain ⟨s, hse⟩ : ∃ s, s = sts[i] := ⟨_, rfl⟩
    rw [← hse] at hs
    obtain ⟨hm0, hm1⟩ := hm s (List.mem_of_getElem? hs)
    clear hse
    have hsame := set_same hs
    rw [doF_some hi hs]
    obtain ⟨k, who, x, a1, a2⟩ := o
    simp only at hi
    subst hi
    unfold doOn
    by_cases k0 : k = 0
    · subst k0; rw [if_pos rfl]
      rcases readE_cases s.t s.n a1 a2 with ⟨hr, e1, e2, e3⟩ | ⟨hr, hy, e1, e2, e3⟩ | ⟨hr, hy, e1, e2, e3⟩
      · simp only [e1, e2, e3]; exact do_read_bad base v sts i s x a1 a2 w h hs hl hbase hr
      · simp only [e1, e2, e3]; exact do_read_wait base v sts i s x a1 a2 w h hs hl hbase hr hy
      · simp only [e1, e2, e3]; exact do_read_ok base v sts i s x a1 a2 w h hs hl hbase hr hy
    rw [if_neg k0]
    by_cases k1 : k = 1
    · subst k1; rw [if_pos rfl]
      cases hr : rightB a1 a2 with
      | false =>
        simp only [wroteE, wroteT, wroteN, hr, Bool.false_eq_true, if_false]
        exact do_wrote_bad base v sts i s x a1 a2 w h hs hl hbase hr
      | true =>
        simp only [wroteE, wroteT, wroteN, hr, if_true]
        exact do_wrote_ok base v sts i s x a1 a2 w h hs hl hbase hr
    rw [if_neg k1]
    by_cases k2 : k = 2
    · subst k2; rw [if_pos rfl]; exact do_id base v sts i s x a1 a2 w h hs hl hbase hm0 (by omega)
    rw [if_neg k2]
    by_cases k3 : k = 3
    · subst k3; rw [if_pos rfl]
      cases hx : decide (0 ≤ x) && decide (x ≤ 1099511627776) with
      | true =>
        rw [if_pos rfl]
        simp at hx
        have := do_fork_ok base v sts i s x a1 a2 w h hs hl hbase hx.1 hx.2
        rw [set_same (x := s) (by rw [List.getElem?_append_left hlt]; exact hs)] at this
        exact this
      | false =>
        rw [if_neg (by decide)]
        simp at hx
        by_cases hx0 : x < 0
        · exact do_fork_neg base v sts i s x a1 a2 w h hs hl hbase hx0
        · exact do_fork_much base v sts i s x a1 a2 w h hs hl hbase (hx (by omega))
    rw [if_neg k3]
    by_cases k4 : k = 4
    · subst k4; rw [if_pos rfl]
      by_cases hx : 0 ≤ x
      · rw [if_pos hx]
        obtain ⟨j, rfl⟩ : ∃ j : Nat, x = (j : Int) := ⟨x.toNat, by omega⟩
        simp only [Int.toNat_natCast]
        cases hj : sts[j]? with
        | none =>
          have := List.getElem?_eq_none_iff.1 hj
          have := do_join_out base v sts i s j a1 a2 w h hs hl hbase (by omega)
          rw [hsame] at this
          exact this
        | some s2 => exact do_join base v sts i s j s2 j a1 a2 w h hs hl hbase hj rfl
      · rw [if_neg hx]
        have := do_join_neg base v sts i s x a1 a2 w h hs hl hbase (by omega)
        rw [hsame] at this
        exact this
    rw [if_neg k4]
    have := do_other base v sts i s k x a1 a2 w h hs hl hbase ⟨k0, k1, k2, k3, k4⟩
    rw [hsame] at this
    exact this

/-- What a call does to the numbers' bounds. -/
theorem doF_small {k : Int} {sts : List Sn} (o : OpD) (h : Small k sts) (hk : 0 ≤ k) : Small (k + 1) (doF sts o).1 ∧ (doF sts o).1.length ≤ sts.length + 1 ∧ sts.length ≤ (doF sts o).1.length := by
  have h' : Small (k + 1) sts := fun s hs => ⟨(h s hs).1, by have := (h s hs).2; omega⟩
  have hset : ∀ (i : Nat) (s2 : Sn), 0 ≤ s2.m → s2.m ≤ k + 1 → Small (k + 1) (sts.set i s2) := by
    intro i s2 h0 h1 s hs
    rcases List.mem_or_eq_of_mem_set hs with h2 | h2
    · exact h' s h2
    · rw [h2]; exact ⟨h0, h1⟩
  unfold doF
  split
  · split
    · rename_i s hs
      obtain ⟨m0, m1⟩ := h s (List.mem_of_getElem? hs)
      unfold doOn
      repeat' split
      all_goals first
        | exact ⟨hset _ _ (by simp; omega) (by simp; omega), by simp, by simp⟩
        | exact ⟨h', Nat.le_succ _, Nat.le_refl _⟩
        | (refine ⟨?_, by simp, by simp⟩
           intro s' hs'
           rcases List.mem_append.1 (show s' ∈ sts ++ _ from hs') with h2 | h2
           · exact h' s' h2
           · rw [List.mem_singleton] at h2; rw [h2]; exact ⟨by simp, by simp; omega⟩)
    · exact ⟨h', Nat.le_succ _, Nat.le_refl _⟩
  · exact ⟨h', Nat.le_succ _, Nat.le_refl _⟩
end Go.Proofs.Ytjilfmphdncapaa
