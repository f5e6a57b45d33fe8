/- SessionRises: the plain law: what a call does to the tokens seen. -/
import Derived.Test.YtjilfmphdncapaaSesStep
import Derived.Test.YtjilfmphdncapaaSesForks
set_option linter.unusedVariables false
set_option linter.unusedSimpArgs false
namespace Go.Proofs.Ytjilfmphdncapaa

theorem max_rises (t n a b : Int) : lessB (maxT t n a b) (maxN t n a b) t n = false := by rw [less_max, less_self', Bool.false_and]
theorem read_rises (t n a1 a2 : Int) : lessB (readT t n a1 a2) (readN t n a1 a2) t n = false := by
  unfold readT readN
  split
  · exact max_rises _ _ _ _
  · exact less_self' _ _
theorem wrote_rises (t n a1 a2 : Int) : lessB (wroteT t n a1 a2) (wroteN t n a1 a2) t n = false := by
  unfold wroteT wroteN
  split
  · exact max_rises _ _ _ _
  · exact less_self' _ _

/-- One session is set to one that saw no less: none saw less. -/
theorem set_rises {sts : List Sn} {i : Nat} {s s2 : Sn} (hs : sts[i]? = some s) (h : lessB s2.t s2.n s.t s.n = false) (k : Nat) (a b : Sn) (ha : sts[k]? = some a) (hb : (sts.set i s2)[k]? = some b) : lessB b.t b.n a.t a.n = false := by
  have hlt := (List.getElem?_eq_some_iff.1 hs).1
  by_cases hk : k = i
  · subst hk
    rw [List.getElem?_set_self hlt] at hb
    rw [hs] at ha
    cases ha
    cases hb
    exact h
  · rw [List.getElem?_set_ne (fun e => hk e.symm)] at hb
    rw [ha] at hb
    cases hb
    exact less_self' _ _
theorem same_rises {sts : List Sn} (k : Nat) (a b : Sn) (ha : sts[k]? = some a) (hb : sts[k]? = some b) : lessB b.t b.n a.t a.n = false := by
  rw [ha] at hb
  cases hb
  exact less_self' _ _

/-- (A) none saw less than before. -/
theorem doF_rises (sts : List Sn) (o : OpD) (k : Nat) (a b : Sn) (ha : sts[k]? = some a) (hb : (doF sts o).1[k]? = some b) : lessB b.t b.n a.t a.n = false := by
  by_cases hn : o.who < 0 ∨ (sts.length : Int) ≤ o.who
  · rw [doF_none hn] at hb
    exact same_rises k a b ha hb
  · obtain ⟨i, hi⟩ : ∃ i : Nat, o.who = (i : Int) := ⟨o.who.toNat, by omega⟩
    have hs : sts[i]? = some sts[i] := List.getElem?_eq_getElem (by omega)
    obtain ⟨s, hse⟩ : ∃ s, s = sts[i] := ⟨_, rfl⟩
    rw [← hse] at hs
    rw [doF_some hi hs] at hb
    unfold doOn at hb
    split at hb
    · exact set_rises hs (read_rises _ _ _ _) k a b ha hb
    split at hb
    · exact set_rises hs (wrote_rises _ _ _ _) k a b ha hb
    split at hb
    · exact set_rises (s2 := ⟨s.c, s.m + 1, s.t, s.n⟩) hs (less_self' s.t s.n) k a b ha hb
    split at hb
    · split at hb
      · have hk := (List.getElem?_eq_some_iff.1 ha).1
        simp only at hb
        rw [List.getElem?_append_left hk] at hb
        exact same_rises k a b ha hb
      · exact same_rises k a b ha hb
    split at hb
    · split at hb
      · split at hb
        · exact set_rises hs (max_rises _ _ _ _) k a b ha hb
        · exact same_rises k a b ha hb
      · exact same_rises k a b ha hb
    · exact same_rises k a b ha hb

/-- (B) a read that is not refused saw at least what the session saw. -/
theorem doF_read (sts : List Sn) (o : OpD) (i : Nat) (s : Sn) (hi : o.who = (i : Int)) (hs : sts[i]? = some s) (hk : o.k = 0) (he : (doF sts o).2.e = 0) : lessB o.a1 o.a2 s.t s.n = false := by
  rw [doF_some hi hs] at he
  unfold doOn at he
  rw [if_pos hk] at he
  simp only at he
  unfold readE at he
  split at he
  · split at he
    · simp at he
    · rename_i h; simpa using h
  · simp at he

/-- (C) where there is one more, it saw what the one saw that it is of. -/
theorem doF_fork (sts : List Sn) (o : OpD) (h : sts.length < (doF sts o).1.length) :
    ∃ (i : Nat) (s s' : Sn), o.who = (i : Int) ∧ sts[i]? = some s ∧ (doF sts o).1.length = sts.length + 1 ∧ (doF sts o).1[sts.length]? = some s' ∧ s'.t = s.t ∧ s'.n = s.n := by
  by_cases hn : o.who < 0 ∨ (sts.length : Int) ≤ o.who
  · rw [doF_none hn] at h
    exact absurd h (Nat.lt_irrefl _)
  · obtain ⟨i, hi⟩ : ∃ i : Nat, o.who = (i : Int) := ⟨o.who.toNat, by omega⟩
    have hs : sts[i]? = some sts[i] := List.getElem?_eq_getElem (by omega)
    obtain ⟨s, hse⟩ : ∃ s, s = sts[i] := ⟨_, rfl⟩
    rw [← hse] at hs
    rw [doF_some hi hs] at h ⊢
    refine ⟨i, s, ?_⟩
    unfold doOn at h ⊢
    split at h
    · simp at h
    split at h
    · simp at h
    split at h
    · simp at h
    split at h
    · split at h
      · rename_i k0 k1 k2 k3 hx
        rw [if_neg k0, if_neg k1, if_neg k2, if_pos k3, if_pos hx]
        exact ⟨⟨o.x, 0, s.t, s.n⟩, hi, hs, by simp, by simp, rfl, rfl⟩
      · simp at h
    split at h
    · split at h
      · split at h
        · simp at h
        · simp at h
      · simp at h
    · simp at h
end Go.Proofs.Ytjilfmphdncapaa
