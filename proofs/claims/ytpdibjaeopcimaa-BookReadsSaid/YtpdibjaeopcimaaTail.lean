/- A region that draws its order and ends in operations that one order alone allows (a store, an append, a conversion): what stands ahead of them is walked once, in the text's order, in classes of worlds; the end as a list. No program in sight. -/
import Derived.Test.YtpdibjaeopcimaaHinge
import Derived.StillTail
set_option linter.unusedVariables false
set_option linter.unusedSimpArgs false
namespace Go.Proofs.Ytpdibjaeopcimaa
open Go.RowKit

section
variable {P : Program} {ops : Array Oper} {md : Region.Mode} {pre : Nat → World → Prop} {post : Nat → World → World → Prop}

def wpAnyT (P : Program) (md : Region.Mode) (ops : Array Oper) (pre : Nat → World → Prop) (post : Nat → World → World → Prop) (n : Nat) (L : Array Bool → Act → Prop) : Nat → Array Bool → Act → Prop
  | 0, listed, a => L listed a
  | f + 1, listed, a =>
    Region.ready md ops listed ≠ [] ∧ ∀ i ∈ Region.ready md ops listed, i < n ∧ hOp P ops pre post i (wpAnyT P md ops pre post n L f (listed.setIfInBounds i true)) a

theorem wpAny_of_headT {n g : Nat} {L : Array Bool → Act → Prop} {Q' : Exit → Act → World → Prop} {Ph : Array Bool → World → Prop}
    (hStep : ∀ listed i o w, HeadInv md ops n listed → Ph listed w → i ∈ Region.ready md ops listed → i < n → ops[i]? = some o → pre i w ∧ (∀ w', post i w w' → Ph (listed.setIfInBounds i true) w') ∧ (o.guard ≠ none → Ph (listed.setIfInBounds i true) w))
    (hL : ∀ listed a w, Ph listed w → L listed a → wpAny P md ops Q' g listed a w) :
    ∀ (f : Nat) (listed : Array Bool) (a : Act) (w : World), HeadInv md ops n listed → Ph listed w → wpAnyT P md ops pre post n L f listed a → wpAny P md ops Q' (f + g) listed a w
  | 0, listed, a, w, _, hp, h => by rw [Nat.zero_add]; exact hL _ _ _ hp h
  | f + 1, listed, a, w, inv, hp, h => by
    rw [show f + 1 + g = (f + g) + 1 by omega]
    refine ⟨fun h0 => absurd h0 h.1, fun i hi => ?_⟩
    obtain ⟨hin, h2⟩ := h.2 i hi
    obtain ⟨_, o, ho, _⟩ := mem_ready.1 hi
    obtain ⟨s1, s2, s3⟩ := hStep listed i o w inv hp hi hin ho
    have ih := fun a' w' (hw' : Ph (listed.setIfInBounds i true) w') hk => wpAny_of_headT hStep hL f (listed.setIfInBounds i true) a' w' (inv.set hi hin) hw' hk
    unfold hOp at h2
    unfold wpOp
    simp only [ho] at h2 ⊢
    split
    · rename_i hwant
      simp only [hwant, if_true] at h2
      obtain ⟨v, hv, hk⟩ := h2
      have h3 := hv w s1
      left
      unfold hAt at h3
      unfold Oper.wp
      generalize (execOp a.eval o).run P w = r at *
      cases r with
      | ok n' w' =>
        cases n' <;> simp only [hUpon] at h3 <;> simp only [Oper.upon]
        case value x =>
          obtain ⟨e1, e2, e3⟩ := h3
          rw [e1, e2]
          exact ih _ _ (s2 _ e3) hk
        case skip =>
          obtain ⟨e1, e2, e3⟩ := h3
          rw [e1, ← e2]
          exact ih _ _ (s2 _ e3) hk
        case enter fn args =>
          obtain ⟨e1, hc⟩ := h3
          rw [e1]
          exact hc.mono fun e w'' ⟨he, hw''⟩ => by subst he; exact ih _ _ (s2 _ hw'') hk
      | halt x w' => simp only [hUpon] at h3
    · rename_i hwant
      simp only [hwant] at h2
      refine ih _ _ (s3 fun hg => ?_) h2
      apply hwant
      unfold Region.wanted
      rw [hg]

theorem wpAnyT_first {n i : Nat} {oi : Oper} {v : Value} {L : Array Bool → Act → Prop} (hi : ops[i]? = some oi) (hsel : ∀ (j : Nat) (o : Oper) cs b, ops[j]? = some o → o.op ≠ .select cs b)
    (hs : Region.sinkB md ops n = true) (hc : Region.chainB md ops n = true) (hn : n < ops.size) (hin : i < n)
    (hdone : ∀ listed a, L listed a → ∀ j ∈ Region.ready md ops listed, n ≤ j) :
    ∀ (f : Nat) (listed : Array Bool) (a : Act), HeadInv md ops n listed →
      (∀ j oj, ops[j]? = some oj → j ≠ i → listed.getD j true = false → (∀ e ∈ oj.after, Region.binds md e = true → e.on ≠ i) → oi.apart ops oj = true) →
      i ∈ Region.ready md ops listed → YieldsH P ops pre post i oi v a →
      wpAnyT P md ops pre post n L f (listed.setIfInBounds i true) (a.put oi.dst v) → wpAnyT P md ops pre post n L (f + 1) listed a := by
  intro f
  induction f with
  | zero =>
    intro listed a inv _ hr hy H
    have hun := (mem_ready.1 hr).1
    refine ⟨fun h => (by rw [h] at hr; cases hr), fun j hj => ?_⟩
    have hjn : j < n := by
      rcases Nat.lt_or_ge j n with h | h
      · exact h
      · exact absurd hj (tail_waits hs hc hn inv _ i rfl hin hun j h)
    refine ⟨hjn, ?_⟩
    by_cases hji : j = i
    · subst hji; exact hy.hOp hi H
    · have := hdone _ _ H j (ready_mono hj hji)
      omega
  | succ f ih =>
    intro listed a inv hfree hr hy H
    have hun := (mem_ready.1 hr).1
    refine ⟨fun h => (by rw [h] at hr; cases hr), fun j hj => ?_⟩
    have hjn : j < n := by
      rcases Nat.lt_or_ge j n with h | h
      · exact h
      · exact absurd hj (tail_waits hs hc hn inv _ i rfl hin hun j h)
    refine ⟨hjn, ?_⟩
    by_cases hji : j = i
    · subst hji; exact hy.hOp hi H
    · have h1 := (H.2 j (ready_mono hj hji)).2
      obtain ⟨hjun, oj, hoj, hall⟩ := mem_ready.1 hj
      have hnot : ∀ e ∈ oj.after, Region.binds md e = true → e.on ≠ i := fun e he hb heq => by
        have h1 := hall e he hb
        rw [heq, getD_both hun] at h1
        cases h1
      have h2 := hOp_put hoj (hfree j oj hoj hji hjun hnot) (fun cs b => hsel i oi cs b hi) (fun cs b => hsel j oj cs b hoj) hy h1
      have hfree' : ∀ k ok, ops[k]? = some ok → k ≠ i → (listed.setIfInBounds j true).getD k true = false →
          (∀ e ∈ ok.after, Region.binds md e = true → e.on ≠ i) → oi.apart ops ok = true := fun k ok hk hki hun hno => by
        refine hfree k ok hk hki ?_ hno
        by_cases hjk : j = k
        · subst hjk; exact hjun
        · rw [getD_set_ne true hjk] at hun; exact hun
      refine hOp_mono (fun a' h3 => ih (listed.setIfInBounds j true) a' (inv.set hj hjn) hfree' (ready_mono hr (Ne.symm hji)) h3.1 ?_) h2
      rw [Array.setIfInBounds_comm _ _ hji]
      exact h3.2

theorem wpAnyT_lex {n g : Nat} {Lq : Act → Prop} (hsel : Region.noSelect ops = true) (hs : Region.sinkB md ops n = true) (hc : Region.chainB md ops n = true) (hn : n < ops.size) :
    ∀ (l : List Oper) (k : Nat) (listed : Array Bool) (a : Act), (∀ j, j < l.length → l[j]? = ops[k + j]?) → k + l.length = n → HeadInv md ops n listed → (∀ j, j < k → listed.getD j false = true) →
    Region.lexHead md ops g l.length k listed = true → wpHinge P ops pre post Lq k l a →
    wpAnyT P md ops pre post n (fun listed' a' => Region.seqB md ops g n listed' = true ∧ (∀ j, j < n → listed'.getD j false = true) ∧ Lq a') l.length listed a
  | [], k, listed, a, _, hk, _, hall, hB, h => by
    have : k = n := by simpa using hk
    subst this
    exact ⟨by simpa [Region.lexHead] using hB, hall, h⟩
  | o :: l, k, listed, a, hl, hk, inv, hall, hB, h => by
    have h0 : ops[k]? = some o := by simpa using (hl 0 (by simp)).symm
    simp only [List.length_cons, Region.lexHead, Bool.and_eq_true] at hB
    obtain ⟨⟨hr, hf⟩, hB'⟩ := hB
    have hkn : k < n := by simp only [List.length_cons] at hk; omega
    have hr' : k ∈ Region.ready md ops listed := by simpa using hr
    have hst : hOp P ops pre post k (wpHinge P ops pre post Lq (k + 1) l) a := by unfold hOp; simp only [h0]; exact h
    obtain ⟨v, hy, hK⟩ := yieldsH_of_hOp h0 hst
    refine wpAnyT_first h0 (Region.noSelect_spec hsel) hs hc hn hkn (fun listed' a' hL => seqB_ready hL.1) l.length listed a inv (Region.free_spec h0 hf) hr' hy
      (wpAnyT_lex hsel hs hc hn l (k + 1) _ _ (fun j hj => by have := hl (j + 1) (by simp; omega); simpa [Nat.add_assoc, Nat.add_comm 1 j] using this) (by simp only [List.length_cons] at hk; omega) (inv.set hr' hkn) (fun j hj => ?_) hB' hK)
    by_cases hjk : j = k
    · subst hjk
      exact set_get (by rw [inv.size]; exact (Array.getElem?_eq_some_iff.1 h0).1)
    · exact getD_set_true (hall j (by omega))

/-- The tail's way, of a staged head. -/
theorem wp_region_staged {id : Nat} {Q : Exit → Act → World → Prop} {a : Act} {w : World} {l : List Oper} (n : Nat) {Ph : Array Bool → World → Prop} {Cend : World → Prop} (hm : P.follows .mixedOrders = true) (hB : Region.lexTailB .any l.toArray n = true)
    (hStep : ∀ listed i o w, HeadInv .any l.toArray n listed → Ph listed w → i ∈ Region.ready .any l.toArray listed → i < n → l.toArray[i]? = some o → pre i w ∧ (∀ w', post i w w' → Ph (listed.setIfInBounds i true) w') ∧ (o.guard ≠ none → Ph (listed.setIfInBounds i true) w))
    (hStart : Ph (Array.replicate l.toArray.size false) w.drew) (hEnd : ∀ listed : Array Bool, (∀ j, j < n → listed.getD j false = true) → ∀ w, Ph listed w → Cend w)
    (h : wpHinge P l.toArray pre post (fun a' => ∀ w', Cend w' → wpList P l.toArray Q (l.drop n) a' w') 0 (l.take n) a) : (Code.region id l.toArray true).wp P Q a w := by
  simp only [Region.lexTailB, Bool.and_eq_true, decide_eq_true_eq] at hB
  obtain ⟨⟨⟨⟨hsel, hn⟩, hs⟩, hc⟩, hlex⟩ := hB
  have hn' : n < l.length := by simpa using hn
  have htl : (l.take n).length = n := by simp; omega
  have hdl : (l.drop n).length = l.toArray.size - n := by simp
  have inv0 : HeadInv .any l.toArray n (Array.replicate l.toArray.size false) :=
    ⟨by simp, fun j oj _ hl => (by rw [getD_replicate_false] at hl; cases hl), fun t _ ht => getD_in (by simpa using ht) (getD_replicate_false _ _)⟩
  have H := wpAnyT_lex (md := .any) (g := l.toArray.size - n) hsel hs hc hn (l.take n) 0 _ a (fun j hj => by
    have hj' : j < n := by rw [htl] at hj; exact hj
    simp [hj']) (by simpa using htl) inv0 (fun j hj => by omega) (by rw [htl]; exact hlex) h
  refine wp_region_any hm ?_
  have := wpAny_of_headT (Q' := Q) (g := l.toArray.size - n) (Ph := Ph) hStep (fun listed a' w' hp hL => by
    have := wpAny_of_seq (md := .any) (Q' := Q) (l.drop n) n listed a' w' (fun j => by simp [List.getElem?_drop]) (by rw [hdl]; exact hL.1) (hL.2.2 _ (hEnd listed hL.2.1 _ hp))
    rwa [hdl] at this) _ _ _ w.drew inv0 hStart H
  rw [htl, show n + (l.toArray.size - n) = l.toArray.size by omega] at this
  exact this

/-- One class for the whole head: its operations read, its calls leave worlds of the class. -/
theorem wp_region_quiet_tail {id : Nat} {Q : Exit → Act → World → Prop} {a : Act} {w : World} {l : List Oper} (n : Nat) {C : World → Prop} (hm : P.follows .mixedOrders = true) (hB : Region.lexTailB .any l.toArray n = true) (hC : C w.drew)
    (h : wpQuiet P l.toArray C (fun a' => ∀ w', C w' → wpList P l.toArray Q (l.drop n) a' w') (l.take n) a) : (Code.region id l.toArray true).wp P Q a w :=
  wp_region_staged (pre := fun _ => C) (post := fun _ _ => C) (Ph := fun _ => C) (Cend := C) n hm hB (fun _ _ _ _ _ hp _ _ _ => ⟨hp, fun _ h => h, fun _ => hp⟩) hC (fun _ _ _ h => h) (wpHinge_rest (C := C) _ 0 a (fun _ _ => ⟨rfl, fun _ => rfl⟩) h)
end
end Go.Proofs.Ytpdibjaeopcimaa
