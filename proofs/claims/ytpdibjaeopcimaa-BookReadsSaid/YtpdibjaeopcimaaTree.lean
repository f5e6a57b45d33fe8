/- A region that draws its order and holds a call and makes memory: what reads is taken first, wherever it stands; of the others every order is walked. No program in sight. -/
import Derived.Test.YtpdibjaeopcimaaStage
set_option linter.unusedVariables false
set_option linter.unusedSimpArgs false
namespace Go.Proofs.Ytpdibjaeopcimaa
open Go.RowKit

/-- Which steps come: reads; one of several; the end. -/
inductive Tree (α : Type) where
  | stop : Tree α
  | none : Tree α
  | reads : List α → Tree α → Tree α
  | fork : α → Tree α → Tree α → Tree α
def Tree.map {α β : Type} (f : α → β) : Tree α → Tree β
  | .stop => .stop
  | .none => .none
  | .reads l t => .reads (l.map f) (t.map f)
  | .fork a t r => .fork (f a) (t.map f) (r.map f)
def Tree.depth {α : Type} : Tree α → Nat
  | .stop => 0
  | .none => 0
  | .reads l t => l.length + t.depth
  | .fork _ t r => max (1 + t.depth) r.depth
def Tree.heads : Tree Nat → List Nat
  | .fork k _ r => k :: r.heads
  | _ => []
def Tree.readsAll : Tree Oper → Bool
  | .reads l t => l.all (fun o => readsOp o.op) && t.readsAll
  | .fork _ t r => t.readsAll && r.readsAll
  | _ => true

section
variable {P : Program} {ops : Array Oper} {md : Region.Mode} {U : World → Prop} {Q : Act → World → Prop}
def wpT (P : Program) (ops : Array Oper) (U : World → Prop) (Q : Act → World → Prop) : Tree Oper → Act → World → Prop
  | .stop, a, w => Q a w
  | .none, _, _ => True
  | .reads l t, a, w => wpQuiet P ops U (fun a => wpT P ops U Q t a w) l a
  | .fork o t r, a, w => (if Region.wanted o (yielded ops a.tmps) then mStep P o (fun a w => U w ∧ wpT P ops U Q t a w) a w else wpT P ops U Q t (a.put o.dst undef) w) ∧ wpT P ops U Q r a w
/-- What reads, one by one. -/
def readsB (md : Region.Mode) (ops : Array Oper) (K : Array Bool → Bool) : List Nat → Array Bool → Bool
  | [], listed => K listed
  | k :: l, listed => (Region.ready md ops listed).contains k && Region.free md ops listed k && readsB md ops K l (listed.setIfInBounds k true)
def treeB (md : Region.Mode) (ops : Array Oper) : Bool → Tree Nat → Array Bool → Bool
  | _, .stop, listed => (Region.ready md ops listed).isEmpty
  | first, .none, _ => !first
  | _, .reads l t, listed => readsB md ops (treeB md ops true t) l listed
  | first, .fork k t r, listed => (!first || (!(Region.ready md ops listed).isEmpty && (Region.ready md ops listed).all (fun i => (Tree.fork k t r).heads.contains i))) && treeB md ops true t (listed.setIfInBounds k true) && treeB md ops false r listed

theorem wpAnyM_reads (hs : Region.noSelect ops = true) {K : Array Bool → Bool} {n : Nat} {R : Act → World → Prop} (hK : ∀ listed a w, U w → K listed = true → R a w → ∀ fuel, n ≤ fuel → wpAnyM P md ops U Q fuel listed a w) :
    ∀ (l : List Nat) (l' : List Oper) (listed : Array Bool) (a : Act) (w : World), U w → (l'.map some = l.map (ops[·]?)) → l'.all (fun o => readsOp o.op) = true → readsB md ops K l listed = true → wpQuiet P ops U (fun a => R a w) l' a → ∀ fuel, l.length + n ≤ fuel → wpAnyM P md ops U Q fuel listed a w
  | [], l', listed, a, w, hU, hl, _, hB, h, fuel, hf => by
    cases l' with
    | nil => exact hK listed a w hU hB h fuel (by simpa using hf)
    | cons _ _ => simp at hl
  | k :: l, l', listed, a, w, hU, hl, hr, hB, h, fuel, hf => by
    cases l' with
    | nil => simp at hl
    | cons o l' =>
      simp only [List.map_cons, List.cons.injEq] at hl
      obtain ⟨h0, hl⟩ := hl
      have h0 : ops[k]? = some o := h0.symm
      simp only [readsB, Bool.and_eq_true] at hB
      obtain ⟨⟨hrd, hfr⟩, hB'⟩ := hB
      simp only [List.all_cons, Bool.and_eq_true] at hr
      cases fuel with
      | zero => simp at hf
      | succ fuel =>
        have ih := fun a h => wpAnyM_reads hs hK l l' (listed.setIfInBounds k true) a w hU hl hr.2 hB' h fuel (by simp at hf; omega)
        unfold wpQuiet at h
        have hy : ∃ v, YieldsU P ops U o v a ∧ wpQuiet P ops U (fun a => R a w) l' (a.put o.dst v) := by
          by_cases hw : Region.wanted o (yielded ops a.tmps) = true
          · rw [if_pos hw] at h
            obtain ⟨v, h1, h2⟩ := h
            exact ⟨v, .inl ⟨hw, fun w hw => readAt_quiet hr.1 (h1 w hw)⟩, h2⟩
          · rw [if_neg hw] at h
            exact ⟨undef, .inr ⟨by simpa using hw, rfl⟩, h⟩
        obtain ⟨v, hy, hk⟩ := hy
        exact wpAnyM_first h0 (Region.noSelect_spec hs) fuel listed a w hU (Region.free_spec h0 hfr) (by simpa using hrd) hy (ih _ hk)

theorem wpAnyM_end {fuel : Nat} {listed : Array Bool} {a : Act} {w : World} (hr : Region.ready md ops listed = []) (h : Q a w) : wpAnyM P md ops U Q fuel listed a w := by
  cases fuel with
  | zero => exact ⟨hr, h⟩
  | succ fuel => exact ⟨fun _ => h, fun i hi => by rw [hr] at hi; cases hi⟩

/-- Both at once: a tree is walked; of a row of branches each serves. -/
theorem wpAnyM_tree (hs : Region.noSelect ops = true) : ∀ (t : Tree Nat) (t' : Tree Oper), t'.map some = t.map (ops[·]?) → t'.readsAll = true →
    (∀ listed a w, U w → treeB md ops true t listed = true → wpT P ops U Q t' a w → ∀ fuel, t.depth ≤ fuel → wpAnyM P md ops U Q fuel listed a w) ∧
    (∀ listed a w b, U w → treeB md ops b t listed = true → wpT P ops U Q t' a w → ∀ k, k ∈ t.heads → ∀ fuel, t.depth ≤ fuel + 1 → mOp P ops k (fun a w => U w ∧ wpAnyM P md ops U Q fuel (listed.setIfInBounds k true) a w) a w)
  | .stop, t', hl, _ => by
    cases t' <;> simp [Tree.map] at hl
    refine ⟨fun listed a w _ hB h fuel _ => wpAnyM_end (by simpa [treeB] using hB) h, fun listed a w b _ _ _ k hk => by simp [Tree.heads] at hk⟩
  | .none, t', hl, _ => by
    cases t' <;> simp [Tree.map] at hl
    refine ⟨fun listed a w _ hB h fuel _ => by simp [treeB] at hB, fun listed a w b _ _ _ k hk => by simp [Tree.heads] at hk⟩
  | .reads l t, t', hl, hr => by
    cases t' <;> simp [Tree.map] at hl
    rename_i l' t'
    obtain ⟨h1, h2⟩ := hl
    simp only [Tree.readsAll, Bool.and_eq_true] at hr
    have ih := (wpAnyM_tree hs t t' h2 hr.2).1
    refine ⟨fun listed a w hU hB h fuel hf => ?_, fun listed a w b _ _ _ k hk => by simp [Tree.heads] at hk⟩
    exact wpAnyM_reads hs (K := treeB md ops true t) (n := t.depth) (R := fun a w => wpT P ops U Q t' a w) (fun listed a w hU hB h fuel hf => ih listed a w hU hB h fuel hf) l l' listed a w hU h1 hr.1 (by simpa [treeB] using hB) h fuel (by simpa [Tree.depth] using hf)
  | .fork k t r, t', hl, hr => by
    cases t' <;> simp [Tree.map] at hl
    rename_i o t' r'
    obtain ⟨h0, h1, h2⟩ := hl
    have h0 : ops[k]? = some o := h0.symm
    simp only [Tree.readsAll, Bool.and_eq_true] at hr
    have iht := (wpAnyM_tree hs t t' h1 hr.1).1
    have ihr := (wpAnyM_tree hs r r' h2 hr.2).2
    have key : ∀ listed a w b, U w → treeB md ops b (.fork k t r) listed = true → wpT P ops U Q (.fork o t' r') a w → ∀ j, j ∈ (Tree.fork k t r).heads → ∀ fuel, (Tree.fork k t r).depth ≤ fuel + 1 → mOp P ops j (fun a w => U w ∧ wpAnyM P md ops U Q fuel (listed.setIfInBounds j true) a w) a w := by
      intro listed a w b hU hB h j hj fuel hf
      simp only [treeB, Bool.and_eq_true] at hB
      obtain ⟨⟨_, hBt⟩, hBr⟩ := hB
      obtain ⟨hst, hre⟩ := h
      simp only [Tree.depth] at hf
      simp only [Tree.heads, List.mem_cons] at hj
      rcases hj with rfl | hj
      · unfold mOp
        simp only [h0]
        split
        · rename_i hw
          rw [if_pos hw] at hst
          exact mStep_mono (fun a w hk => ⟨hk.1, iht _ _ _ hk.1 hBt hk.2 fuel (by omega)⟩) hst
        · rename_i hw
          rw [if_neg hw] at hst
          exact ⟨hU, iht _ _ _ hU hBt hst fuel (by omega)⟩
      · exact ihr listed a w false hU hBr hre j hj fuel (by omega)
    refine ⟨fun listed a w hU hB h fuel hf => ?_, key⟩
    cases fuel with
    | zero => simp only [Tree.depth] at hf; omega
    | succ fuel =>
      have hcov := hB
      simp only [treeB, Bool.and_eq_true, Bool.not_true, Bool.false_or] at hcov
      by_cases hrd : Region.ready md ops listed = []
      · -- nothing is ready: the branch's own step is not either: it can't be
        have := hcov.1.1.1
        rw [hrd] at this
        cases this
      · refine ⟨fun h0 => absurd h0 hrd, fun i hi => key listed a w true hU hB h i ?_ fuel hf⟩
        have := List.all_eq_true.1 hcov.1.1.2 i hi
        simpa using this
theorem wpT_reads {l : List Oper} {t : Tree Oper} {a : Act} {w : World} (h : wpQuiet P ops U (fun a => wpT P ops U Q t a w) l a) : wpT P ops U Q (.reads l t) a w := h
theorem wpT_stop {a : Act} {w : World} (h : Q a w) : wpT P ops U Q .stop a w := h
theorem wpT_fork {o : Oper} {t r : Tree Oper} {a : Act} {w : World} (hw : Region.wanted o (yielded ops a.tmps) = true) (h : ∀ K : Act → World → Prop, (∀ a w, U w → wpT P ops U Q t a w → K a w) → mStep P o K a w) (hr : wpT P ops U Q r a w) : wpT P ops U Q (.fork o t r) a w := by
  refine ⟨?_, hr⟩
  rw [if_pos hw]
  exact h _ fun a w h1 h2 => ⟨h1, h2⟩
theorem wp_region_tree {id : Nat} {Q : Exit → Act → World → Prop} {a : Act} {v : World} {l : List Oper} (T : Tree Nat) {T' : Tree Oper} (hl : T'.map some = T.map (nth l)) (hm : P.follows .mixedOrders = true) (hs : Region.noSelect l.toArray = true)
    (hB : treeB .any l.toArray true T (Array.replicate l.length false) = true) (hd : T.depth ≤ l.length) (hr : T'.readsAll = true)
    (H : wpT P l.toArray (fun w' => ∃ x : Later v, w' = x.w) (fun a' w' => Q .normal a' w') T' a v.drew) : (Code.region id l.toArray true).wp P Q a v := by
  refine wp_region_any hm (wpAny_of_M (U := fun w' => ∃ x : Later v, w' = x.w) (Q := fun a' w' => Q .normal a' w') (fun _ _ h => h) _ _ _ _ ?_)
  have e : T.map (nth l) = T.map (l.toArray[·]?) := by
    congr 1
    funext k
    rw [nth_get]
    simp
  have hz : l.toArray.size = l.length := by simp
  rw [hz]
  exact (wpAnyM_tree hs T T' (hl.trans e) hr).1 _ a _ ⟨⟨v.drew, (Below.refl _ _).drew⟩, rfl⟩ hB H _ hd
end
end Go.Proofs.Ytpdibjaeopcimaa
