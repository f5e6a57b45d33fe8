/- A region that draws its order and holds several calls, each of which waits for the one ahead of it, whose answers are values that hang on the world (rows that lie somewhere): all else reads alone. One walk, in an order in which each call stands alone ready. No program in sight. -/
import Derived.Test.YtpdibjaeopcimaaHinge
set_option linter.unusedVariables false
set_option linter.unusedSimpArgs false
namespace Go.Proofs.Ytpdibjaeopcimaa
open Go.RowKit

section
variable {P : Program} {ops : Array Oper} {md : Region.Mode} {U : World → Prop}

/-- What follows a call that returned v. -/
def CallPost (K : Value → World → Prop) (e : Ending) (w : World) : Prop := ∃ v, e = .returned v ∧ K v w
/-- A call, in this very world. -/
def callAt (P : Program) (o : Oper) (K : Value → World → Prop) (a : Act) (w : World) : Prop :=
  match (execOp a.eval o).run P w with
  | .ok (.enter f args) w' => w' = w ∧ Calls P f args w (CallPost K)
  | _ => False
/-- A step of any kind, in this very world. -/
def mStep (P : Program) (o : Oper) (K : Act → World → Prop) (a : Act) (w : World) : Prop :=
  match (execOp a.eval o).run P w with
  | .ok (.value u) w' => K (a.put o.dst u) w'
  | .ok .skip w' => K (a.put o.dst undef) w'
  | .ok (.enter f args) w' => Calls P f args w' (CallPost fun v w'' => K (a.put o.dst v) w'')
  | _ => False
def mOp (P : Program) (ops : Array Oper) (i : Nat) (K : Act → World → Prop) (a : Act) (w : World) : Prop :=
  match ops[i]? with
  | none => K a w
  | some o => if Region.wanted o (yielded ops a.tmps) then mStep P o K a w else K (a.put o.dst undef) w

theorem CallPost.mono {K K' : Value → World → Prop} (h : ∀ v w, K v w → K' v w) {e : Ending} {w : World} (hh : CallPost K e w) : CallPost K' e w :=
  let ⟨v, h1, h2⟩ := hh
  ⟨v, h1, h _ _ h2⟩
theorem mStep_mono {o : Oper} {K K' : Act → World → Prop} {a : Act} {w : World} (h : ∀ a w, K a w → K' a w) (hh : mStep P o K a w) : mStep P o K' a w := by
  unfold mStep at *
  generalize (execOp a.eval o).run P w = r at *
  cases r with
  | ok n w' =>
    cases n <;> simp only at hh ⊢
    case value x => exact h _ _ hh
    case skip => exact h _ _ hh
    case enter f args => exact hh.mono fun e w'' => CallPost.mono fun v w => h _ _
  | halt x w' => simp only at hh
theorem mOp_mono {i : Nat} {K K' : Act → World → Prop} {a : Act} {w : World} (h : ∀ a w, K a w → K' a w) (hh : mOp P ops i K a w) : mOp P ops i K' a w := by
  unfold mOp at *
  split
  · exact h _ _ (by simpa [*] using hh)
  · rename_i o ho
    simp only [ho] at hh
    split
    · rename_i hw
      simp only [hw, if_true] at hh
      exact mStep_mono h hh
    · rename_i hw
      simp only [hw] at hh
      exact h _ _ hh

/-- Whatever order is picked; each step leaves a world of the class. -/
def wpAnyM (P : Program) (md : Region.Mode) (ops : Array Oper) (U : World → Prop) (Q : Act → World → Prop) : Nat → Array Bool → Act → World → Prop
  | 0, listed, a, w => Region.ready md ops listed = [] ∧ Q a w
  | fuel + 1, listed, a, w =>
    (Region.ready md ops listed = [] → Q a w) ∧
    ∀ i ∈ Region.ready md ops listed, mOp P ops i (fun a w => U w ∧ wpAnyM P md ops U Q fuel (listed.setIfInBounds i true) a w) a w

/-- An operation that reads yields this, in every world of the class. -/
def readAt (P : Program) (o : Oper) (a : Act) (w : World) (v : Value) : Prop := (execOp a.eval o).run P w = .ok (.value v) w ∨ ((execOp a.eval o).run P w = .ok .skip w ∧ v = undef)
def YieldsU (P : Program) (ops : Array Oper) (U : World → Prop) (o : Oper) (v : Value) (a : Act) : Prop :=
  (Region.wanted o (yielded ops a.tmps) = true ∧ ∀ w, U w → readAt P o a w v) ∨ (Region.wanted o (yielded ops a.tmps) = false ∧ v = undef)
theorem YieldsU.mOp {i : Nat} {o : Oper} {v : Value} {a : Act} {w : World} (hi : ops[i]? = some o) (hy : YieldsU P ops U o v a) (hU : U w) {K : Act → World → Prop} (h : K (a.put o.dst v) w) : mOp P ops i K a w := by
  unfold Go.Proofs.Ytpdibjaeopcimaa.mOp
  simp only [hi]
  rcases hy with ⟨hw, hv⟩ | ⟨hw, rfl⟩
  · simp only [hw, if_true]
    unfold mStep
    rcases hv w hU with h1 | ⟨h1, rfl⟩
    · rw [h1]; exact h
    · rw [h1]; exact h
  · simp only [hw, Bool.false_eq_true, if_false]; exact h
theorem YieldsU.of_same {o : Oper} {v : Value} {a a' : Act} (hy : YieldsU P ops U o v a) (he : execOp a'.eval o = execOp a.eval o)
    (hw : Region.wanted o (yielded ops a'.tmps) = Region.wanted o (yielded ops a.tmps)) : YieldsU P ops U o v a' := by
  unfold YieldsU readAt at *
  rw [he, hw]
  exact hy
theorem mOp_put {j : Nat} {oi oj : Oper} {v : Value} (hj : ops[j]? = some oj) (hap : oi.apart ops oj = true)
    (hsi : ∀ cs b, oi.op ≠ .select cs b) (hsj : ∀ cs b, oj.op ≠ .select cs b) {K : Act → World → Prop} {a : Act} {w : World}
    (hy : YieldsU P ops U oi v a) (h : mOp P ops j K (a.put oi.dst v) w) :
    mOp P ops j (fun a' w' => YieldsU P ops U oi v a' ∧ K (a'.put oi.dst v) w') a w := by
  obtain ⟨h1, h2, h3⟩ := Oper.apart_spec hap
  have keep : ∀ (a : Act), YieldsU P ops U oi v a → ∀ u, YieldsU P ops U oi v (a.put oj.dst u) := fun a hy u =>
    hy.of_same (execOp_put oi hsi a oj.dst u h3) (wanted_put oi a oj.dst u h3)
  unfold mOp at *
  simp only [hj] at *
  rw [wanted_put oj a oi.dst v h1] at h
  split
  · rename_i hw
    simp only [hw, if_true] at h
    unfold mStep at *
    rw [execOp_put oj hsj a oi.dst v h1] at h
    generalize (execOp a.eval oj).run P w = r at *
    cases r with
    | ok n w' =>
      cases n <;> simp only at h ⊢
      case value x => exact ⟨keep a hy _, by rw [← Act.put_comm a v x h2]; exact h⟩
      case skip => exact ⟨keep a hy _, by rw [← Act.put_comm a v undef h2]; exact h⟩
      case enter f args => exact h.mono fun e w'' => CallPost.mono fun u w2 hk => ⟨keep a hy _, by rw [← Act.put_comm a v u h2]; exact hk⟩
    | halt x w' => simp only at h
  · rename_i hw
    simp only [hw] at h
    exact ⟨keep a hy _, by rw [← Act.put_comm a v undef h2]; exact h⟩

theorem wpAnyM_first {Q : Act → World → Prop} {i : Nat} {oi : Oper} {v : Value} (hi : ops[i]? = some oi) (hsel : ∀ (j : Nat) (o : Oper) cs b, ops[j]? = some o → o.op ≠ .select cs b) :
    ∀ (fuel : Nat) (listed : Array Bool) (a : Act) (w : World), U w →
      (∀ j oj, ops[j]? = some oj → j ≠ i → listed.getD j true = false → (∀ e ∈ oj.after, Region.binds md e = true → e.on ≠ i) → oi.apart ops oj = true) →
      i ∈ Region.ready md ops listed → YieldsU P ops U oi v a →
      wpAnyM P md ops U Q fuel (listed.setIfInBounds i true) (a.put oi.dst v) w → wpAnyM P md ops U Q (fuel + 1) listed a w := by
  intro fuel
  induction fuel with
  | zero =>
    intro listed a w hU _ hr hy H
    refine ⟨fun h => (by rw [h] at hr; cases hr), fun j hj => ?_⟩
    by_cases hji : j = i
    · subst hji; exact hy.mOp hi hU ⟨hU, H⟩
    · have := ready_mono hj hji
      rw [H.1] at this
      cases this
  | succ fuel ih =>
    intro listed a w hU hfree hr hy H
    refine ⟨fun h => (by rw [h] at hr; cases hr), fun j hj => ?_⟩
    by_cases hji : j = i
    · subst hji; exact hy.mOp hi hU ⟨hU, H⟩
    · have h1 := H.2 j (ready_mono hj hji)
      obtain ⟨hjun, oj, hoj, hall⟩ := mem_ready.1 hj
      have hnot : ∀ e ∈ oj.after, Region.binds md e = true → e.on ≠ i := fun e he hb heq => by
        have h1 := hall e he hb
        have h0 := (mem_ready.1 hr).1
        rw [heq] at h1
        rcases Nat.lt_or_ge i listed.size with h' | h'
        · simp [h'] at h0 h1; rw [h0] at h1; cases h1
        · simp [Array.getElem?_eq_none h'] at h1
      have h2 := mOp_put hoj (hfree j oj hoj hji hjun hnot) (fun cs b => hsel i oi cs b hi) (fun cs b => hsel j oj cs b hoj) hy h1
      have hfree' : ∀ k ok, ops[k]? = some ok → k ≠ i → (listed.setIfInBounds j true).getD k true = false →
          (∀ e ∈ ok.after, Region.binds md e = true → e.on ≠ i) → oi.apart ops ok = true := fun k ok hk hki hun hno => by
        refine hfree k ok hk hki ?_ hno
        by_cases hjk : j = k
        · subst hjk; exact hjun
        · rw [getD_set_ne true hjk] at hun; exact hun
      refine mOp_mono (fun a' w' h3 => ⟨h3.2.1, ih (listed.setIfInBounds j true) a' w' h3.2.1 hfree' (ready_mono hr (Ne.symm hji)) h3.1 ?_⟩) h2
      rw [Array.setIfInBounds_comm _ _ hji]
      exact h3.2.2
theorem wpAnyM_only {Q : Act → World → Prop} {i : Nat} {fuel : Nat} {listed : Array Bool} {a : Act} {w : World} (hr : Region.ready md ops listed = [i])
    (h : mOp P ops i (fun a w => U w ∧ wpAnyM P md ops U Q fuel (listed.setIfInBounds i true) a w) a w) : wpAnyM P md ops U Q (fuel + 1) listed a w := by
  refine ⟨fun h0 => (by rw [hr] at h0; cases h0), fun j hj => ?_⟩
  rw [hr] at hj
  simp only [List.mem_singleton] at hj
  subst hj
  exact h

/-- The walk in the order that is told: true: a call that stands alone ready. -/
def wpMix (P : Program) (ops : Array Oper) (U : World → Prop) (Q : Act → World → Prop) : List (Oper × Bool) → Act → World → Prop
  | [], a, w => Q a w
  | (o, c) :: rest, a, w =>
    if Region.wanted o (yielded ops a.tmps) then
      (if c then callAt P o (fun v w' => U w' ∧ wpMix P ops U Q rest (a.put o.dst v) w') a w else ∃ v, (∀ w, U w → readAt P o a w v) ∧ wpMix P ops U Q rest (a.put o.dst v) w)
    else wpMix P ops U Q rest (a.put o.dst undef) w
/-- May the operations come in this order? -/
def mixB (md : Region.Mode) (ops : Array Oper) : List (Nat × Bool) → Array Bool → Bool
  | [], listed => (Region.ready md ops listed).isEmpty
  | (k, c) :: rest, listed => (if c then Region.ready md ops listed == [k] else (Region.ready md ops listed).contains k && Region.free md ops listed k) && mixB md ops rest (listed.setIfInBounds k true)

theorem wpAnyM_mix {Q : Act → World → Prop} (hs : Region.noSelect ops = true) : ∀ (l : List (Oper × Bool)) (σ : List (Nat × Bool)) (listed : Array Bool) (a : Act) (w : World), U w →
    (l.map fun p => (some p.1, p.2)) = σ.map (fun p => (ops[p.1]?, p.2)) → mixB md ops σ listed = true → wpMix P ops U Q l a w → wpAnyM P md ops U Q l.length listed a w
  | [], σ, listed, a, w, _, hl, hB, h => by
    cases σ with
    | nil => exact ⟨by simpa [mixB] using hB, h⟩
    | cons _ _ => simp at hl
  | (o, c) :: l, σ, listed, a, w, hU, hl, hB, h => by
    cases σ with
    | nil => simp at hl
    | cons p σ =>
      obtain ⟨k, c'⟩ := p
      simp only [List.map_cons, List.cons.injEq, Prod.mk.injEq] at hl
      obtain ⟨⟨h0, rfl⟩, hl⟩ := hl
      have h0 : ops[k]? = some o := h0.symm
      simp only [mixB, Bool.and_eq_true] at hB
      obtain ⟨hr, hB'⟩ := hB
      have ih := fun a w hU => wpAnyM_mix (Q := Q) hs l σ (listed.setIfInBounds k true) a w hU hl hB'
      cases c with
      | true =>
        simp only [if_true, beq_iff_eq] at hr
        refine wpAnyM_only hr ?_
        unfold wpMix at h
        unfold mOp
        simp only [h0]
        split
        · rename_i hw
          rw [if_pos hw, if_pos rfl] at h
          unfold callAt at h
          unfold mStep
          generalize (execOp a.eval o).run P w = r at *
          cases r with
          | ok n w' =>
            cases n <;> simp only at h ⊢
            case enter f args => obtain ⟨rfl, h⟩ := h; exact h.mono fun e w'' => CallPost.mono fun v w2 hk => ⟨hk.1, ih _ _ hk.1 hk.2⟩
          | halt x w' => simp only at h
        · rename_i hw
          rw [if_neg hw] at h
          exact ⟨hU, ih _ _ hU h⟩
      | false =>
        simp only [Bool.false_eq_true, if_false, Bool.and_eq_true] at hr
        obtain ⟨hr, hf⟩ := hr
        unfold wpMix at h
        have hy : ∃ v, YieldsU P ops U o v a ∧ wpMix P ops U Q l (a.put o.dst v) w := by
          by_cases hw : Region.wanted o (yielded ops a.tmps) = true
          · rw [if_pos hw, if_neg (by simp)] at h
            obtain ⟨v, h1, h2⟩ := h
            exact ⟨v, .inl ⟨hw, h1⟩, h2⟩
          · rw [if_neg hw] at h
            exact ⟨undef, .inr ⟨by simpa using hw, rfl⟩, h⟩
        obtain ⟨v, hy, hK⟩ := hy
        exact wpAnyM_first h0 (Region.noSelect_spec hs) l.length listed a w hU (Region.free_spec h0 hf) (by simpa using hr) hy (ih _ _ hU hK)

theorem wpAny_of_M {Q : Act → World → Prop} {Q' : Exit → Act → World → Prop} (hQ : ∀ a w, Q a w → Q' .normal a w) : ∀ (fuel : Nat) (listed : Array Bool) (a : Act) (w : World), wpAnyM P md ops U Q fuel listed a w → wpAny P md ops Q' fuel listed a w
  | 0, _, _, _, h => ⟨h.1, hQ _ _ h.2⟩
  | fuel + 1, listed, a, w, h => by
    refine ⟨fun h0 => hQ _ _ (h.1 h0), fun i hi => ?_⟩
    have h2 := h.2 i hi
    unfold mOp at h2
    unfold wpOp
    split
    · rename_i hn
      simp only [hn] at h2
      exact wpAny_of_M hQ _ _ _ _ h2.2
    · rename_i o ho
      simp only [ho] at h2
      split
      · rename_i hw
        simp only [hw, if_true] at h2
        left
        unfold mStep at h2
        unfold Oper.wp
        generalize (execOp a.eval o).run P w = r at *
        cases r with
        | ok n w' =>
          cases n <;> simp only at h2 <;> simp only [Oper.upon]
          case value x => exact wpAny_of_M hQ _ _ _ _ h2.2
          case skip => exact wpAny_of_M hQ _ _ _ _ h2.2
          case enter f args =>
            refine h2.mono fun e w'' ⟨v, he, hk⟩ => ?_
            subst he
            exact wpAny_of_M hQ _ _ _ _ hk.2
        | halt x w' => simp only at h2
      · rename_i hw
        simp only [hw] at h2
        exact wpAny_of_M hQ _ _ _ _ h2.2

/-- Operations that read alone, hand a value on, or reckon. -/
def readsOp : Op → Bool
  | .unOp _ _ _ | .binOp _ _ _ _ _ | .pick _ _ _ | .nilCheck _ => true
  | op => readOp op
def noCall (r : Result Next) : Prop := ∀ f args w', r ≠ .ok (.enter f args) w'
theorem noCall_then {α : Type} {r : Result α} {g : α → World → Result Next} (hg : ∀ a w, noCall (g a w)) : noCall (r.andThen g) := by
  intro f args w'
  cases r with
  | ok a w => exact hg a w f args w'
  | halt x w => intro h; cases h
theorem noCall_halt {x : Halt} {w : World} : noCall (.halt x w) := by intro f args w' h; cases h
theorem noCall_ok {v : Value} {w : World} : noCall (.ok (.value v) w) := by intro f args w' h; cases h
theorem readAt_quiet {o : Oper} {a : Act} {C : World → Prop} {w : World} {v : Value} (hr : readsOp o.op = true) (h : o.quietAt P a C w v) : readAt P o a w v := by
  unfold Oper.quietAt at h
  unfold readAt
  have hne : noCall ((execOp a.eval o).run P w) := by
    unfold execOp
    cases hop : o.op <;> rw [hop] at hr <;> simp [readsOp, readOp] at hr <;> simp only [Sem.run_bind, Sem.run_pure] <;> (repeat' (first | exact noCall_ok | exact noCall_halt | (refine noCall_then fun _ _ => ?_) | split | (simp only [Sem.run_bind, Sem.run_pure])))
  generalize (execOp a.eval o).run P w = r at *
  cases r with
  | ok n w' =>
    cases n <;> simp only [Oper.quietUpon] at h
    case value x => obtain ⟨rfl, rfl⟩ := h; exact .inl rfl
    case skip => obtain ⟨rfl, rfl⟩ := h; exact .inr ⟨rfl, rfl⟩
    case enter f args => exact absurd rfl (hne f args w')
  | halt x w' => simp only [Oper.quietUpon] at h
/-- What reads, by the kit's own steps. -/
theorem wpMix_reads {Q : Act → World → Prop} {l2 : List (Oper × Bool)} : ∀ (l1 : List Oper) (a : Act) (w : World), l1.all (fun o => readsOp o.op) = true →
    wpQuiet P ops U (fun a => wpMix P ops U Q l2 a w) l1 a → wpMix P ops U Q (l1.map (·, false) ++ l2) a w
  | [], a, w, _, h => h
  | o :: l1, a, w, hr, h => by
    simp only [List.all_cons, Bool.and_eq_true] at hr
    have ih := fun a => wpMix_reads (Q := Q) (l2 := l2) l1 a w hr.2
    unfold wpQuiet at h
    simp only [List.map_cons, List.cons_append]
    unfold wpMix
    split
    · rename_i hw
      rw [if_pos hw] at h
      obtain ⟨v, hv, hk⟩ := h
      rw [if_neg (by simp)]
      exact ⟨v, fun w hw => readAt_quiet hr.1 (hv w hw), ih _ hk⟩
    · rename_i hw
      rw [if_neg hw] at h
      exact ih _ h
/-- A call. -/
theorem wpMix_call {Q : Act → World → Prop} {l : List (Oper × Bool)} {o : Oper} {a : Act} {w : World} (hw : Region.wanted o (yielded ops a.tmps) = true)
    (h : ∀ K : Value → World → Prop, (∀ v w', U w' → wpMix P ops U Q l (a.put o.dst v) w' → K v w') → callAt P o K a w) : wpMix P ops U Q ((o, true) :: l) a w := by
  unfold wpMix
  rw [if_pos hw, if_pos rfl]
  exact h _ fun v w' h1 h2 => ⟨h1, h2⟩
theorem wpMix_skip {Q : Act → World → Prop} {l : List (Oper × Bool)} {o : Oper} {c : Bool} {a : Act} {w : World} (hw : Region.wanted o (yielded ops a.tmps) = false)
    (h : wpMix P ops U Q l (a.put o.dst undef) w) : wpMix P ops U Q ((o, c) :: l) a w := by
  unfold wpMix
  rw [if_neg (by rw [hw]; simp)]
  exact h
/-- The region: σ is the order. -/
theorem wp_region_mix {id : Nat} {Q : Exit → Act → World → Prop} {a : Act} {v : World} {l : List Oper} (σ : List (Nat × Bool)) {l' : List (Oper × Bool)} (hm : P.follows .mixedOrders = true) (hs : Region.noSelect l.toArray = true)
    (hB : mixB .any l.toArray σ (Array.replicate l.length false) = true) (hlen : σ.length = l.length) (hl : (l'.map fun p => (some p.1, p.2)) = σ.map (fun p => (l.toArray[p.1]?, p.2))) (hU : U v.drew)
    (H : wpMix P l.toArray U (fun a' w' => Q .normal a' w') l' a v.drew) : (Code.region id l.toArray true).wp P Q a v := by
  refine wp_region_any hm (wpAny_of_M (U := U) (Q := fun a' w' => Q .normal a' w') (fun _ _ h => h) _ _ _ _ ?_)
  have h2 := wpAnyM_mix (md := .any) hs l' σ (Array.replicate l.length false) a v.drew hU hl hB H
  have hll : l'.length = l.length := by
    have := congrArg List.length hl
    simp only [List.length_map] at this
    omega
  rw [hll] at h2
  have hz : l.toArray.size = l.length := by simp
  rw [hz]
  exact h2
/-- The walk by stages: what reads, then a call, and so on; what reads at the end. -/
def wpStage (P : Program) (ops : Array Oper) (U : World → Prop) (Q : Act → World → Prop) : List (List Oper × Oper) → List Oper → Act → World → Prop
  | [], last, a, w => wpQuiet P ops U (fun a => Q a w) last a
  | (l, o) :: r, last, a, w => wpQuiet P ops U (fun a => if Region.wanted o (yielded ops a.tmps) then callAt P o (fun v w' => U w' ∧ wpStage P ops U Q r last (a.put o.dst v) w') a w else wpStage P ops U Q r last (a.put o.dst undef) w) l a
def flatS : List (List Oper × Oper) → List Oper → List (Oper × Bool)
  | [], last => last.map (·, false) ++ []
  | (l, o) :: r, last => l.map (·, false) ++ (o, true) :: flatS r last
theorem wpQuiet_mono' {C : World → Prop} {Q Q' : Act → Prop} (h : ∀ a, Q a → Q' a) (l : List Oper) (a : Act) (hh : wpQuiet P ops C Q l a) : wpQuiet P ops C Q' l a := wpQuiet_mono h l a hh
theorem callAt_mono {o : Oper} {K K' : Value → World → Prop} {a : Act} {w : World} (h : ∀ v w, K v w → K' v w) (hh : callAt P o K a w) : callAt P o K' a w := by
  unfold callAt at *
  generalize (execOp a.eval o).run P w = r at *
  cases r with
  | ok n w' =>
    cases n <;> simp only at hh ⊢
    case enter f args => exact ⟨hh.1, hh.2.mono fun e w'' => CallPost.mono h⟩
  | halt x w' => simp only at hh
theorem wpMix_stage {Q : Act → World → Prop} {last : List Oper} (hlast : last.all (fun o => readsOp o.op) = true) : ∀ (l : List (List Oper × Oper)) (a : Act) (w : World), l.all (fun p => p.1.all fun o => readsOp o.op) = true →
    wpStage P ops U Q l last a w → wpMix P ops U Q (flatS l last) a w
  | [], a, w, _, h => wpMix_reads last a w hlast (wpQuiet_mono' (fun a h => h) _ _ h)
  | (l1, o) :: l, a, w, hl, h => by
    simp only [List.all_cons, Bool.and_eq_true] at hl
    have ih := wpMix_stage hlast (Q := Q) l
    refine wpMix_reads l1 a w hl.1 (wpQuiet_mono' (fun a h => ?_) _ _ h)
    unfold wpMix
    split
    · rename_i hw
      rw [if_pos hw] at h
      rw [if_pos rfl]
      exact callAt_mono (fun v w' hk => ⟨hk.1, ih _ _ hl.2 hk.2⟩) h
    · rename_i hw
      rw [if_neg hw] at h
      exact ih _ _ hl.2 h
theorem wpStage_cons {Q : Act → World → Prop} {l : List Oper} {o : Oper} {r : List (List Oper × Oper)} {last : List Oper} {a : Act} {w : World}
    (h : wpQuiet P ops U (fun a => if Region.wanted o (yielded ops a.tmps) then callAt P o (fun v w' => U w' ∧ wpStage P ops U Q r last (a.put o.dst v) w') a w else wpStage P ops U Q r last (a.put o.dst undef) w) l a) : wpStage P ops U Q ((l, o) :: r) last a w := h
theorem wpStage_nil {Q : Act → World → Prop} {last : List Oper} {a : Act} {w : World} (h : wpQuiet P ops U (fun a => Q a w) last a) : wpStage P ops U Q [] last a w := h
/-- At a call. -/
theorem stage_call {Q : Act → World → Prop} {o : Oper} {r : List (List Oper × Oper)} {last : List Oper} {a : Act} {w : World} (hw : Region.wanted o (yielded ops a.tmps) = true)
    (h : ∀ K : Value → World → Prop, (∀ v w', U w' → wpStage P ops U Q r last (a.put o.dst v) w' → K v w') → callAt P o K a w) :
    if Region.wanted o (yielded ops a.tmps) then callAt P o (fun v w' => U w' ∧ wpStage P ops U Q r last (a.put o.dst v) w') a w else wpStage P ops U Q r last (a.put o.dst undef) w := by
  rw [if_pos hw]
  exact h _ fun v w' h1 h2 => ⟨h1, h2⟩
/-- An element of a list, found by peeling alone: it comes out as it is written. -/
def nth {α : Type} : List α → Nat → Option α
  | [], _ => none
  | x :: _, 0 => some x
  | _ :: l, k + 1 => nth l k
theorem nth_get {α : Type} : ∀ (l : List α) (k : Nat), nth l k = l[k]?
  | [], _ => by simp [nth]
  | x :: l, 0 => by simp [nth]
  | x :: l, k + 1 => by simp [nth, nth_get l k]
/-- The region, by stages, in worlds behind v; σ: the order. -/
theorem wp_region_stages {id : Nat} {Q : Exit → Act → World → Prop} {a : Act} {v : World} {l : List Oper} (σ : List (Nat × Bool)) {st : List (List Oper × Oper)} {last : List Oper} (hl : ((flatS st last).map fun p => (some p.1, p.2)) = σ.map (fun p => (nth l p.1, p.2)))
    (hm : P.follows .mixedOrders = true) (hs : Region.noSelect l.toArray = true) (hB : mixB .any l.toArray σ (Array.replicate l.length false) = true) (hlen : σ.length = l.length)
    (h1 : st.all (fun p => p.1.all fun o => readsOp o.op) = true) (h2 : last.all (fun o => readsOp o.op) = true)
    (H : wpStage P l.toArray (fun w' => ∃ x : Later v, w' = x.w) (fun a' w' => Q .normal a' w') st last a v.drew) : (Code.region id l.toArray true).wp P Q a v :=
  wp_region_mix σ hm hs hB hlen (by rw [hl]; exact List.map_congr_left fun p _ => by rw [nth_get]; simp) ⟨⟨v.drew, (Below.refl _ _).drew⟩, rfl⟩ (wpMix_stage h2 st a _ h1 H)
end
end Go.Proofs.Ytpdibjaeopcimaa
