/- A region that draws its order and holds one call that writes (the hinge): ahead of it and beside it stand operations that read alone; all others wait for it. One walk, in the text's order. No program in sight. -/
import Derived.Test.YtpdibjaeopcimaaBase
set_option linter.unusedVariables false
set_option linter.unusedSimpArgs false
namespace Go.Proofs.Ytpdibjaeopcimaa
open Go.RowKit

section
variable {P : Program} {ops : Array Oper} {md : Region.Mode} {pre : Nat → World → Prop} {post : Nat → World → World → Prop}

/-- What an operation must yield in world w: the value v; the world behind it is of class D. -/
def hUpon (P : Program) (D : World → Prop) (w : World) (v : Value) : Result Next → Prop
  | .ok (.value u) w' => w' = w ∧ u = v ∧ D w
  | .ok .skip w' => w' = w ∧ v = undef ∧ D w
  | .ok (.enter f args) w' => w' = w ∧ Calls P f args w (fun e w'' => e = .returned v ∧ D w'')
  | _ => False
def hAt (P : Program) (o : Oper) (a : Act) (D : World → Prop) (w : World) (v : Value) : Prop := hUpon P D w v ((execOp a.eval o).run P w)

/-- Operation number i: one value in every world of its own class; it leaves a world of its own second class. -/
def hOp (P : Program) (ops : Array Oper) (pre : Nat → World → Prop) (post : Nat → World → World → Prop) (i : Nat) (K : Act → Prop) (a : Act) : Prop :=
  match ops[i]? with
  | none => K a
  | some o => if Region.wanted o (yielded ops a.tmps) then (∃ v, (∀ w, pre i w → hAt P o a (post i w) w v) ∧ K (a.put o.dst v)) else K (a.put o.dst undef)

theorem hOp_mono {i : Nat} {a : Act} {K K' : Act → Prop} (h : ∀ a, K a → K' a) (hh : hOp P ops pre post i K a) : hOp P ops pre post i K' a := by
  unfold hOp at *
  split
  · exact h _ (by simpa [*] using hh)
  · rename_i o ho
    simp only [ho] at hh
    split
    · rename_i hw
      simp only [hw, if_true] at hh
      obtain ⟨v, h1, h2⟩ := hh
      exact ⟨v, h1, h _ h2⟩
    · rename_i hw
      simp only [hw] at hh
      exact h _ hh

def wpAnyH (P : Program) (md : Region.Mode) (ops : Array Oper) (pre : Nat → World → Prop) (post : Nat → World → World → Prop) (Q : Array Bool → Act → Prop) : Nat → Array Bool → Act → Prop
  | 0, listed, a => Region.ready md ops listed = [] ∧ Q listed a
  | fuel + 1, listed, a =>
    (Region.ready md ops listed = [] → Q listed a) ∧
    ∀ i ∈ Region.ready md ops listed, hOp P ops pre post i (wpAnyH P md ops pre post Q fuel (listed.setIfInBounds i true)) a

def YieldsH (P : Program) (ops : Array Oper) (pre : Nat → World → Prop) (post : Nat → World → World → Prop) (i : Nat) (o : Oper) (v : Value) (a : Act) : Prop :=
  (Region.wanted o (yielded ops a.tmps) = true ∧ ∀ w, pre i w → hAt P o a (post i w) w v) ∨
  (Region.wanted o (yielded ops a.tmps) = false ∧ v = undef)

theorem YieldsH.hOp {i : Nat} {o : Oper} {v : Value} {a : Act} (hi : ops[i]? = some o) (hy : YieldsH P ops pre post i o v a) {K : Act → Prop} (h : K (a.put o.dst v)) : hOp P ops pre post i K a := by
  unfold Go.Proofs.Ytpdibjaeopcimaa.hOp
  simp only [hi]
  rcases hy with ⟨hw, hv⟩ | ⟨hw, rfl⟩
  · simp only [hw, if_true]; exact ⟨v, hv, h⟩
  · simp only [hw, Bool.false_eq_true, if_false]; exact h

theorem YieldsH.of_same {i : Nat} {o : Oper} {v : Value} {a a' : Act} (hy : YieldsH P ops pre post i o v a) (he : execOp a'.eval o = execOp a.eval o)
    (hw : Region.wanted o (yielded ops a'.tmps) = Region.wanted o (yielded ops a.tmps)) : YieldsH P ops pre post i o v a' := by
  unfold YieldsH hAt at *
  rw [he, hw]
  exact hy

theorem yieldsH_of_hOp {i : Nat} {o : Oper} {a : Act} {K : Act → Prop} (hi : ops[i]? = some o) (h : hOp P ops pre post i K a) : ∃ v, YieldsH P ops pre post i o v a ∧ K (a.put o.dst v) := by
  unfold hOp at h
  simp only [hi] at h
  by_cases hw : Region.wanted o (yielded ops a.tmps) = true
  · simp only [hw, if_true] at h
    obtain ⟨v, h1, h2⟩ := h
    exact ⟨v, .inl ⟨hw, h1⟩, h2⟩
  · simp only [hw] at h
    exact ⟨undef, .inr ⟨by simpa using hw, rfl⟩, h⟩

theorem hOp_put {i j : Nat} {oi oj : Oper} {v : Value} (hj : ops[j]? = some oj) (hap : oi.apart ops oj = true)
    (hsi : ∀ cs b, oi.op ≠ .select cs b) (hsj : ∀ cs b, oj.op ≠ .select cs b) {K : Act → Prop} {a : Act}
    (hy : YieldsH P ops pre post i oi v a) (h : hOp P ops pre post j K (a.put oi.dst v)) :
    hOp P ops pre post j (fun a' => YieldsH P ops pre post i oi v a' ∧ K (a'.put oi.dst v)) a := by
  obtain ⟨h1, h2, h3⟩ := Oper.apart_spec hap
  have keep : ∀ (a : Act), YieldsH P ops pre post i oi v a → ∀ u, YieldsH P ops pre post i oi v (a.put oj.dst u) := fun a hy u =>
    hy.of_same (execOp_put oi hsi a oj.dst u h3) (wanted_put oi a oj.dst u h3)
  unfold hOp at *
  simp only [hj] at *
  rw [wanted_put oj a oi.dst v h1] at h
  split
  · rename_i hw
    simp only [hw, if_true] at h
    obtain ⟨u, hu, hn⟩ := h
    refine ⟨u, fun w hw' => ?_, keep a hy u, by rw [← Act.put_comm a v u h2]; exact hn⟩
    have := hu w hw'
    unfold hAt at *
    rwa [execOp_put oj hsj a oi.dst v h1] at this
  · rename_i hw
    simp only [hw] at h
    exact ⟨keep a hy _, by rw [← Act.put_comm a v undef h2]; exact h⟩

theorem wpAnyH_first {Q : Array Bool → Act → Prop} {i : Nat} {oi : Oper} {v : Value} (hi : ops[i]? = some oi) (hsel : ∀ (j : Nat) (o : Oper) cs b, ops[j]? = some o → o.op ≠ .select cs b) :
    ∀ (fuel : Nat) (listed : Array Bool) (a : Act),
      (∀ j oj, ops[j]? = some oj → j ≠ i → listed.getD j true = false → (∀ e ∈ oj.after, Region.binds md e = true → e.on ≠ i) → oi.apart ops oj = true) →
      i ∈ Region.ready md ops listed → YieldsH P ops pre post i oi v a →
      wpAnyH P md ops pre post Q fuel (listed.setIfInBounds i true) (a.put oi.dst v) → wpAnyH P md ops pre post Q (fuel + 1) listed a := by
  intro fuel
  induction fuel with
  | zero =>
    intro listed a _ hr hy H
    refine ⟨fun h => (by rw [h] at hr; cases hr), fun j hj => ?_⟩
    by_cases hji : j = i
    · subst hji; exact hy.hOp hi H
    · have := ready_mono hj hji
      rw [H.1] at this
      cases this
  | succ fuel ih =>
    intro listed a hfree hr hy H
    refine ⟨fun h => (by rw [h] at hr; cases hr), fun j hj => ?_⟩
    by_cases hji : j = i
    · subst hji; exact hy.hOp hi H
    · have h1 := H.2 j (ready_mono hj hji)
      obtain ⟨hjun, oj, hoj, hall⟩ := mem_ready.1 hj
      have hnot : ∀ e ∈ oj.after, Region.binds md e = true → e.on ≠ i := fun e he hb heq => by
        have h1 := hall e he hb
        have h0 := (mem_ready.1 hr).1
        rw [heq] at h1
        rcases Nat.lt_or_ge i listed.size with h' | h'
        · simp [h'] at h0 h1; rw [h0] at h1; cases h1
        · simp [Array.getElem?_eq_none h'] at h1
      have h2 := hOp_put hoj (hfree j oj hoj hji hjun hnot) (fun cs b => hsel i oi cs b hi) (fun cs b => hsel j oj cs b hoj) hy h1
      have hfree' : ∀ k ok, ops[k]? = some ok → k ≠ i → (listed.setIfInBounds j true).getD k true = false →
          (∀ e ∈ ok.after, Region.binds md e = true → e.on ≠ i) → oi.apart ops ok = true := fun k ok hk hki hun hno => by
        refine hfree k ok hk hki ?_ hno
        by_cases hjk : j = k
        · subst hjk; exact hjun
        · rw [getD_set_ne true hjk] at hun; exact hun
      refine hOp_mono (fun a' h3 => ih (listed.setIfInBounds j true) a' hfree' (ready_mono hr (Ne.symm hji)) h3.1 ?_) h2
      rw [Array.setIfInBounds_comm _ _ hji]
      exact h3.2

/-- The operations one behind the other, from number k on. -/
def wpHinge (P : Program) (ops : Array Oper) (pre : Nat → World → Prop) (post : Nat → World → World → Prop) (Q : Act → Prop) : Nat → List Oper → Act → Prop
  | _, [], a => Q a
  | k, o :: rest, a => if Region.wanted o (yielded ops a.tmps) then (∃ v, (∀ w, pre k w → hAt P o a (post k w) w v) ∧ wpHinge P ops pre post Q (k + 1) rest (a.put o.dst v)) else wpHinge P ops pre post Q (k + 1) rest (a.put o.dst undef)

theorem set_get {listed : Array Bool} {i : Nat} (h : i < listed.size) : (listed.setIfInBounds i true).getD i false = true := by
  simp [h]
theorem wpAnyH_lex {Q : Act → Prop} {h : Nat} (hs : Region.noSelect ops = true) : ∀ (l : List Oper) (k : Nat) (listed : Array Bool) (a : Act), (∀ j, l[j]? = ops[k + j]?) →
    Region.lexFrom md ops l.length k listed = true → listed.size = ops.size → h < k + l.length → (k ≤ h ∨ listed.getD h false = true) → wpHinge P ops pre post Q k l a → wpAnyH P md ops pre post (fun ls a => ls.getD h false = true ∧ Q a) l.length listed a
  | [], _, _, _, _, hB, _, hk, hl2, h => ⟨by simpa [Region.lexFrom] using hB, by rcases hl2 with h1 | h1; (simp at hk; omega); exact h1, h⟩
  | o :: l, k, listed, a, hl, hB, hz, hk, hl2, h => by
    have h0 : ops[k]? = some o := by simpa using (hl 0).symm
    have hkl : k < listed.size := by rw [hz]; exact (Array.getElem?_eq_some_iff.1 h0).1
    simp only [List.length_cons, Region.lexFrom, Bool.and_eq_true] at hB
    obtain ⟨⟨hr, hf⟩, hB'⟩ := hB
    have hst : hOp P ops pre post k (wpHinge P ops pre post Q (k + 1) l) a := by unfold hOp; simp only [h0]; exact h
    obtain ⟨v, hy, hK⟩ := yieldsH_of_hOp h0 hst
    refine wpAnyH_first h0 (Region.noSelect_spec hs) l.length listed a (Region.free_spec h0 hf) (by simpa using hr) hy
      (wpAnyH_lex hs l (k + 1) _ _ (fun j => by have := hl (j + 1); simpa [Nat.add_assoc, Nat.add_comm 1 j] using this) hB' (by simpa using hz) (by simp at hk; omega) ?_ hK)
    rcases hl2 with h1 | h1
    · rcases Nat.lt_or_eq_of_le h1 with h2 | h2
      · exact .inl h2
      · exact .inr (by rw [← h2]; exact set_get hkl)
    · exact .inr (getD_set_true h1)

/-- The world's class while these operations have come up. -/
def Phase (h : Nat) (C0 C1 : World → Prop) (listed : Array Bool) (w : World) : Prop := if listed.getD h false = true then C1 w else C0 w

/-- Is number i neither the hinge nor one that reads alone beside it? -/
def Waits (h : Nat) (u : Nat → Bool) (i : Nat) : Prop := i ≠ h ∧ u i = false

/-- Whatever order is picked: its operations stand in worlds of their classes. -/
theorem wpAny_of_hinge {h : Nat} {u : Nat → Bool} {U C0 C1 : World → Prop} {Q : Act → Prop} {Q' : Exit → Act → World → Prop} (h0 : ∀ w, C0 w → U w) (h1 : ∀ w, C1 w → U w)
    (hp : ∀ i, pre i = if i = h then C0 else if u i = true then U else C1) (hq : ∀ i w, post i w = if i = h then C1 else if u i = true then (fun w' => w' = w) else C1)
    (hw : ∀ i o, ops[i]? = some o → Waits h u i → ∃ e ∈ o.after, Region.binds md e = true ∧ (e.on = h ∨ Waits h u e.on))
    (hg : ∀ o, ops[h]? = some o → o.guard = none) (hQ : ∀ a w, C1 w → Q a → Q' .normal a w) : ∀ (fuel : Nat) (listed : Array Bool) (a : Act) (w : World), listed.size = ops.size → (∀ j, Waits h u j → listed.getD j false = true → listed.getD h false = true) → Phase h C0 C1 listed w →
    wpAnyH P md ops pre post (fun ls a => ls.getD h false = true ∧ Q a) fuel listed a → wpAny P md ops Q' fuel listed a w
  | 0, listed, a, w, hs, hc, hC, H => by
    refine ⟨H.1, hQ _ _ ?_ H.2.2⟩
    unfold Phase at hC
    rwa [if_pos H.2.1] at hC
  | fuel + 1, listed, a, w, hs, hc, hC, H => by
    refine ⟨fun hr => hQ _ _ ?_ (H.1 hr).2, fun i hi => ?_⟩
    · unfold Phase at hC
      rwa [if_pos (H.1 hr).1] at hC
    · have h2 := H.2 i hi
      obtain ⟨hun, o, ho, hall⟩ := mem_ready.1 hi
      have hil : i < listed.size := by rw [hs]; exact (Array.getElem?_eq_some_iff.1 ho).1
      have hun' : listed.getD i false = false := by
        simp only [Array.getD_eq_getD_getElem?, Array.getElem?_eq_getElem hil, Option.getD_some] at hun ⊢
        exact hun
      have hlist : Waits h u i → listed.getD h false = true := fun hwi => by
        obtain ⟨e, he, hb, h3⟩ := hw i o ho hwi
        have h4 := hall e he hb
        rcases h3 with h3 | h3
        · rwa [h3] at h4
        · exact hc _ h3 h4
      have hpre : pre i w := by
        rw [hp]
        unfold Phase at hC
        by_cases hih : i = h
        · rw [if_pos hih]
          rw [if_neg (by rw [← hih, hun']; simp)] at hC
          exact hC
        · rw [if_neg hih]
          by_cases hui : u i = true
          · rw [if_pos hui]
            split at hC
            · exact h1 _ hC
            · exact h0 _ hC
          · rw [if_neg hui]
            rw [if_pos (hlist ⟨hih, by simpa using hui⟩)] at hC
            exact hC
      have hs2 : (listed.setIfInBounds i true).size = ops.size := by simpa using hs
      have hc2 : ∀ j, Waits h u j → (listed.setIfInBounds i true).getD j false = true → (listed.setIfInBounds i true).getD h false = true := fun j hj hjl => by
        by_cases hij : i = j
        · subst hij
          exact getD_set_true (hlist hj)
        · rw [getD_set_ne false hij] at hjl
          exact getD_set_true (hc j hj hjl)
      have hpost : ∀ w', post i w w' → Phase h C0 C1 (listed.setIfInBounds i true) w' := fun w' hw' => by
        rw [hq] at hw'
        by_cases hih : i = h
        · rw [if_pos hih] at hw'
          unfold Phase
          rw [if_pos (by rw [← hih]; exact set_get hil)]
          exact hw'
        · rw [if_neg hih] at hw'
          by_cases hui : u i = true
          · rw [if_pos hui] at hw'
            rw [hw']
            unfold Phase at hC ⊢
            rwa [getD_set_ne false hih]
          · rw [if_neg hui] at hw'
            unfold Phase
            rw [if_pos (getD_set_true (hlist ⟨hih, by simpa using hui⟩))]
            exact hw'
      have hskip : Region.wanted o (yielded ops a.tmps) ≠ true → Phase h C0 C1 (listed.setIfInBounds i true) w := fun hn => by
        by_cases hih : i = h
        · exact absurd (by unfold Region.wanted; rw [hg o (by rw [← hih]; exact ho)]) hn
        · unfold Phase at hC ⊢
          rwa [getD_set_ne false hih]
      have ih := fun a' w' (hw' : Phase h C0 C1 (listed.setIfInBounds i true) w') hk => wpAny_of_hinge h0 h1 hp hq hw hg hQ fuel (listed.setIfInBounds i true) a' w' hs2 hc2 hw' hk
      unfold hOp at h2
      unfold wpOp
      simp only [ho] at h2 ⊢
      split
      · rename_i hwant
        simp only [hwant, if_true] at h2
        obtain ⟨v, hv, hk⟩ := h2
        have h3 := hv w hpre
        left
        unfold hAt at h3
        unfold Oper.wp
        generalize (execOp a.eval o).run P w = r at *
        cases r with
        | ok n w' =>
          cases n <;> simp only [hUpon] at h3 <;> simp only [Oper.upon]
          case value x =>
            obtain ⟨e1, e2, e3⟩ := h3
            rw [e1, e2]
            exact ih _ _ (hpost _ e3) hk
          case skip =>
            obtain ⟨e1, e2, e3⟩ := h3
            rw [e1, ← e2]
            exact ih _ _ (hpost _ e3) hk
          case enter f args =>
            obtain ⟨e1, hc⟩ := h3
            rw [e1]
            exact hc.mono fun e w'' ⟨he, hw''⟩ => by subst he; exact ih _ _ (hpost _ hw'') hk
        | halt x w' => simp only [hUpon] at h3
      · rename_i hwant
        simp only [hwant] at h2
        exact ih _ _ (hskip hwant) h2

/-- Operations that read alone, or hand a value on. -/
def readOp : Op → Bool
  | .move _ | .assign _ | .load _ _ | .fieldAddr _ _ _ | .indexAddr _ _ _ | .field _ _ _ | .extract _ _ => true
  | _ => false
theorem hAt_read {o : Oper} {a : Act} {C : World → Prop} {w : World} {v : Value} (hr : readOp o.op = true) (h : o.quietAt P a C w v) : hAt P o a (fun w' => w' = w) w v := by
  unfold Oper.quietAt at h
  unfold hAt
  have hne : ∀ f args w', (execOp a.eval o).run P w ≠ .ok (.enter f args) w' := by
    intro f args w' he
    unfold execOp at he
    cases hop : o.op <;> rw [hop] at hr <;> simp [readOp] at hr <;> rw [hop] at he <;> simp [Sem.run_bind] at he <;> (try (revert he; unfold Result.andThen; split <;> simp))
  generalize (execOp a.eval o).run P w = r at *
  cases r with
  | ok n w' =>
    cases n <;> simp only [Oper.quietUpon] at h <;> simp only [hUpon]
    case value x => exact ⟨h.1, h.2, trivial⟩
    case skip => exact ⟨h.1, h.2, trivial⟩
    case enter f args => exact absurd rfl (hne f args w')
  | halt x w' => simp only [Oper.quietUpon] at h
theorem hAt_quiet {o : Oper} {a : Act} {C : World → Prop} {w : World} {v : Value} (hw : C w) (h : o.quietAt P a C w v) : hAt P o a C w v := by
  unfold Oper.quietAt at h
  unfold hAt
  generalize (execOp a.eval o).run P w = r at *
  cases r with
  | ok n w' =>
    cases n <;> simp only [Oper.quietUpon] at h <;> simp only [hUpon]
    case value x => exact ⟨h.1, h.2, hw⟩
    case skip => exact ⟨h.1, h.2, hw⟩
    case enter f args => exact h
  | halt x w' => simp only [Oper.quietUpon] at h

theorem wpHinge_reads {U : World → Prop} {Q : Act → Prop} {l2 : List Oper} : ∀ (l1 : List Oper) (k : Nat) (a : Act), (∀ j, j < l1.length → pre (k + j) = U ∧ ∀ w, post (k + j) w = fun w' => w' = w) → l1.all (fun o => readOp o.op) = true →
    wpQuiet P ops U (fun a => wpHinge P ops pre post Q (k + l1.length) l2 a) l1 a → wpHinge P ops pre post Q k (l1 ++ l2) a
  | [], k, a, _, _, h => h
  | o :: l1, k, a, hp, hr, h => by
    have hr' := hr
    simp only [List.all_cons, Bool.and_eq_true] at hr
    have ih := fun a => wpHinge_reads (U := U) (Q := Q) (l2 := l2) l1 (k + 1) a (fun j hj => by have := hp (j + 1) (by simpa using hj); rwa [show k + (j + 1) = k + 1 + j by omega] at this) hr.2
    rw [show k + (o :: l1).length = k + 1 + l1.length by simp; omega] at h
    unfold wpQuiet at h
    show wpHinge P ops pre post Q k (o :: (l1 ++ l2)) a
    unfold wpHinge
    split
    · rename_i hw
      rw [if_pos hw] at h
      obtain ⟨v, hv, hk⟩ := h
      have := hp 0 (by simp)
      refine ⟨v, fun w hpw => ?_, ih _ hk⟩
      rw [show k = k + 0 by omega, this.1] at hpw
      rw [show k = k + 0 by omega, this.2]
      exact hAt_read hr.1 (hv w hpw)
    · rename_i hw
      rw [if_neg hw] at h
      exact ih _ h
theorem wpHinge_rest {C : World → Prop} {Q : Act → Prop} : ∀ (l1 : List Oper) (k : Nat) (a : Act), (∀ j, j < l1.length → pre (k + j) = C ∧ ∀ w, post (k + j) w = C) →
    wpQuiet P ops C Q l1 a → wpHinge P ops pre post Q k l1 a
  | [], k, a, _, h => h
  | o :: l1, k, a, hp, h => by
    have ih := fun a => wpHinge_rest (C := C) (Q := Q) l1 (k + 1) a (fun j hj => by have := hp (j + 1) (by simpa using hj); rwa [show k + (j + 1) = k + 1 + j by omega] at this)
    unfold wpQuiet at h
    unfold wpHinge
    split
    · rename_i hw
      rw [if_pos hw] at h
      obtain ⟨v, hv, hk⟩ := h
      have := hp 0 (by simp)
      refine ⟨v, fun w hpw => ?_, ih _ hk⟩
      rw [show k = k + 0 by omega, this.1] at hpw
      rw [show k = k + 0 by omega, this.2]
      exact hAt_quiet hpw (hv w hpw)
    · rename_i hw
      rw [if_neg hw] at h
      exact ih _ h

theorem wpQuiet_mono {C : World → Prop} {Q Q' : Act → Prop} (h : ∀ a, Q a → Q' a) : ∀ (l : List Oper) (a : Act), wpQuiet P ops C Q l a → wpQuiet P ops C Q' l a
  | [], a, hh => h a hh
  | o :: l, a, hh => by
    unfold wpQuiet at *
    split
    · rename_i hw
      rw [if_pos hw] at hh
      exact Oper.quiet_mono (wpQuiet_mono h l) hh
    · rename_i hw
      rw [if_neg hw] at hh
      exact wpQuiet_mono h l _ hh

/-- Does all behind number n + m wait for number n? -/
def waitsB (ops : Array Oper) (n m : Nat) : Bool :=
  (List.range ops.size).all fun i => i ≤ n + m || ((ops[i]?).map fun o => o.after.any fun e => Region.binds .any e && (e.on == n || decide (n + m < e.on))).getD true

theorem rep_get (n j : Nat) : (Array.replicate n false).getD j false = false := by
  rw [Array.getD_eq_getD_getElem?, Array.getElem?_replicate]
  split <;> rfl
/-- The region: l1 (reads), the hinge, l2 (reads), l3 (waits for the hinge). -/
theorem wp_region_hinge {id : Nat} {Q : Exit → Act → World → Prop} {a : Act} {w : World} {l l1 l2 l3 : List Oper} {oh : Oper} {U C0 C1 : World → Prop} (hl : l = l1 ++ oh :: (l2 ++ l3)) (hm : P.follows .mixedOrders = true) (hB : Region.lexB .any l.toArray = true)
    (hwB : waitsB l.toArray l1.length l2.length = true) (hr1 : l1.all (fun o => readOp o.op) = true) (hr2 : l2.all (fun o => readOp o.op) = true) (hg : oh.guard = none) (h0 : ∀ w, C0 w → U w) (h1 : ∀ w, C1 w → U w) (hC : C0 w.drew)
    (H : wpQuiet P l.toArray U (fun a1 => ∃ v, (∀ w, C0 w → hAt P oh a1 C1 w v) ∧
      wpQuiet P l.toArray U (fun a2 => wpQuiet P l.toArray C1 (fun a' => ∀ w', C1 w' → Q .normal a' w') l3 a2) l2 (a1.put oh.dst v)) l1 a) : (Code.region id l.toArray true).wp P Q a w := by
  subst hl
  obtain ⟨n, hn⟩ : ∃ n, n = l1.length := ⟨_, rfl⟩
  obtain ⟨m, hm2⟩ : ∃ m, m = l2.length := ⟨_, rfl⟩
  obtain ⟨ops, hops⟩ : ∃ ops, ops = (l1 ++ oh :: (l2 ++ l3)).toArray := ⟨_, rfl⟩
  rw [← hops] at hB hwB H ⊢
  rw [← hn, ← hm2] at hwB
  obtain ⟨pre, hpre⟩ : ∃ pre : Nat → World → Prop, pre = fun i => if i = n then C0 else if decide (i ≤ n + m) = true then U else C1 := ⟨_, rfl⟩
  obtain ⟨post, hpost⟩ : ∃ post : Nat → World → World → Prop, post = fun i w => if i = n then C1 else if decide (i ≤ n + m) = true then (fun w' => w' = w) else C1 := ⟨_, rfl⟩
  have hwalk : wpHinge P ops pre post (fun a' => ∀ w', C1 w' → Q .normal a' w') 0 (l1 ++ oh :: (l2 ++ l3)) a := by
    refine wpHinge_reads (U := U) l1 0 a (fun j hj => ⟨?_, fun w => ?_⟩) hr1 (wpQuiet_mono ?_ l1 a H)
    · rw [hpre]
      simp only
      rw [if_neg (by omega), if_pos (by simp; omega)]
    · rw [hpost]
      simp only
      rw [if_neg (by omega), if_pos (by simp; omega)]
    · rintro a1 ⟨v, hv, H2⟩
      have hwant : Region.wanted oh (yielded ops a1.tmps) = true := by unfold Region.wanted; rw [hg]
      unfold wpHinge
      rw [if_pos hwant]
      refine ⟨v, fun w hw => ?_, ?_⟩
      · rw [hpre] at hw
        rw [hpost]
        simp only at hw ⊢
        rw [if_pos (by omega)] at hw
        rw [if_pos (by omega)]
        exact hv w hw
      · refine wpHinge_reads (U := U) l2 _ _ (fun j hj => ⟨?_, fun w => ?_⟩) hr2 (wpQuiet_mono ?_ l2 _ H2)
        · rw [hpre]
          simp only
          rw [if_neg (by omega), if_pos (by simp; omega)]
        · rw [hpost]
          simp only
          rw [if_neg (by omega), if_pos (by simp; omega)]
        · intro a2 H3
          refine wpHinge_rest (C := C1) l3 _ _ (fun j hj => ⟨?_, fun w => ?_⟩) H3
          · rw [hpre]
            simp only
            rw [if_neg (by omega), if_neg (by simp; omega)]
          · rw [hpost]
            simp only
            rw [if_neg (by omega), if_neg (by simp; omega)]
  simp only [Region.lexB, Bool.and_eq_true] at hB
  have hsz : ops.size = (l1 ++ oh :: (l2 ++ l3)).length := by rw [hops]; simp
  have hopn : ops[n]? = some oh := by rw [hops, hn]; simp
  refine wp_region_any hm (wpAny_of_hinge (md := .any) (h := n) (u := fun i => decide (i ≤ n + m)) (U := U) (C0 := C0) (C1 := C1) (pre := pre) (post := post) (Q := fun a' => ∀ w', C1 w' → Q .normal a' w') h0 h1 (fun i => by rw [hpre]) (fun i w => by rw [hpost]) ?_ ?_ (fun a w hw h => h w hw) _ _ _ _ (by simp) ?_ ?_ ?_)
  · intro i o ho hwi
    have hi : i < ops.size := (Array.getElem?_eq_some_iff.1 ho).1
    unfold waitsB at hwB
    have h2 := List.all_eq_true.1 hwB i (by simpa using hi)
    obtain ⟨hi1, hi2⟩ := hwi
    simp only [decide_eq_false_iff_not] at hi2
    rw [ho] at h2
    simp only [Bool.or_eq_true, decide_eq_true_eq, Option.map_some, Option.getD_some] at h2
    have h3 := h2.resolve_left hi2
    obtain ⟨e, he, hb⟩ := Array.any_eq_true'.1 h3
    simp only [Bool.and_eq_true, Bool.or_eq_true, beq_iff_eq, decide_eq_true_eq] at hb
    refine ⟨e, he, hb.1, hb.2.imp (fun h4 => h4) fun h4 => ⟨by omega, by simp; omega⟩⟩
  · intro o ho
    rw [hopn] at ho
    cases ho
    exact hg
  · intro j _ hj
    rw [rep_get] at hj
    cases hj
  · unfold Phase
    rw [if_neg (by rw [rep_get]; simp)]
    exact hC
  · have := wpAnyH_lex (md := .any) (h := n) hB.1 (l1 ++ oh :: (l2 ++ l3)) 0 (Array.replicate ops.size false) a (by rw [hops]; simp) (by rw [← hsz]; exact hB.2) (by simp) (by rw [hn]; simp) (.inl (Nat.zero_le _)) hwalk
    rw [← hsz] at this
    exact this
end
end Go.Proofs.Ytpdibjaeopcimaa
