/- index: what each step of add and Apply leaves in memory. -/
import Derived.Test.YtpdibjaeopcimaaIe
import Derived.Test.YtpdibjaeopcimaaIr
set_option linter.unusedVariables false
set_option linter.unusedSimpArgs false
namespace Go.Proofs.Ytpdibjaeopcimaa
open Go.RowKit

section
variable {c c2 : Nat → Nat} {w w1 : World} {x : Nat} {rv : Value} {mt mi mm : Nat} {rws : List (Rw × Value)} {f f2 : Int → List Nat} {ids ids2 : List (Pl × Pl)} {st : XSt}
theorem IxL.last (h : IxL c w x rv mt mi mm rws f ids st) (s : Pl) : IxL c ((w.setCell ⟨x, 4, none⟩ (.int .i64 s.1)).setCell ⟨x, 5, none⟩ (.int .i64 s.2)) x rv mt mi mm rws f ids { st with last := s } := by
  have hc : Ch (· = x) w ((w.setCell ⟨x, 4, none⟩ (.int .i64 s.1)).setCell ⟨x, 5, none⟩ (.int .i64 s.2)) := ((Ch.refl (· = x) w).set (p := ⟨x, 4, none⟩) (.inr rfl) _).set (p := ⟨x, 5, none⟩) (.inr rfl) _
  refine ⟨?_, h.cx, h.rows.ch hc (fun k e => by rw [e, h.cx]; decide), h.grp.ch hc (fun k e => by rw [e, h.cx]; decide), h.ids.ch hc (fun e => ?_), h.ci, h.trs.ch hc (fun e => ?_), h.cm⟩
  · have := (h.box.set 4 (.int .i64 s.1)).set 5 (.int .i64 s.2)
    simpa using this
  · have := h.ci
    rw [e, h.cx] at this
    cases this
  · have := h.cm
    rw [e, h.cx] at this
    cases this
theorem IxL.app (h : IxL c w x rv mt mi mm rws f ids st) (n : Nat) : IxL c (w.setCell ⟨x, 6, none⟩ (.int .i64 (n : Nat))) x rv mt mi mm rws f ids { st with applied := n } := by
  have hc : Ch (· = x) w (w.setCell ⟨x, 6, none⟩ (.int .i64 (n : Nat))) := (Ch.refl (· = x) w).set (p := ⟨x, 6, none⟩) (.inr rfl) _
  refine ⟨?_, h.cx, h.rows.ch hc (fun k e => by rw [e, h.cx]; decide), h.grp.ch hc (fun k e => by rw [e, h.cx]; decide), h.ids.ch hc (fun e => ?_), h.ci, h.trs.ch hc (fun e => ?_), h.cm⟩
  · have := h.box.set 6 (.int .i64 (n : Nat))
    simpa using this
  · have := h.ci
    rw [e, h.cx] at this
    cases this
  · have := h.cm
    rw [e, h.cx] at this
    cases this
theorem IxL.putIds (h : IxL c w x rv mt mi mm rws f ids st) (hm : MapB w1 mi plV plV ids2) (hc : Ch (· = mi) w w1) : IxL c w1 x rv mt mi mm rws f ids2 st := by
  refine ⟨h.box.ch hc (fun e => ?_), h.cx, h.rows.ch hc (fun k e => by rw [e, h.ci]; decide), h.grp.ch hc (fun k e => by rw [e, h.ci]; decide), hm, h.ci, h.trs.ch hc (fun e => ?_), h.cm⟩
  · have := h.cx
    rw [e, h.ci] at this
    cases this
  · have := h.cm
    rw [e, h.ci] at this
    cases this
theorem IxL.putTr (h : IxL c w x rv mt mi mm rws f ids st) {tr : List (Int × Pl)} (hm : MapB w1 mm (Value.int .i64) plV tr) (hc : Ch (· = mm) w w1) : IxL c w1 x rv mt mi mm rws f ids { st with tr := tr } := by
  refine ⟨h.box.ch hc (fun e => ?_), h.cx, h.rows.ch hc (fun k e => by rw [e, h.cm]; decide), h.grp.ch hc (fun k e => by rw [e, h.cm]; decide), h.ids.ch hc (fun e => ?_), h.ci, hm, h.cm⟩
  · have := h.cx
    rw [e, h.cm] at this
    cases this
  · have := h.ci
    rw [e, h.cm] at this
    cases this
theorem IxL.putGrp (h : IxL c w x rv mt mi mm rws f ids st) (hg : GroupsX c2 w1 mt f2) (hre : ∀ k, k < w.heap.size → c2 k = c k) {S : Nat → Prop} (hc : Ch S w w1) (hS : ∀ k, k < w.heap.size → S k → c k = 3 ∨ c k = 6) : IxL c2 w1 x rv mt mi mm rws f2 ids st := by
  have h' := h.re hre
  have hc' : Ch (fun k => c2 k = 3 ∨ c2 k = 6) w w1 := ⟨hc.os, hc.tape, hc.output, hc.size, fun k hk hn => hc.block k hk (fun e => hn (by rw [hre k hk]; exact hS k hk e))⟩
  have no : ∀ {k n : Nat}, c2 k = n → n ≠ 3 → n ≠ 6 → ¬ (c2 k = 3 ∨ c2 k = 6) := by
    intro k n e h3 h6 h
    rw [e] at h
    exact h.elim h3 h6
  exact ⟨h'.box.ch hc' (no h'.cx (by decide) (by decide)), h'.cx, h'.rows.ch hc' (fun k e => by rcases e with e | e <;> rw [e] <;> decide), hg, h'.ids.ch hc' (no h'.ci (by decide) (by decide)), h'.ci, h'.trs.ch hc' (no h'.cm (by decide) (by decide)), h'.cm⟩
/-- The row is appended. -/
theorem IxL.addRow {wa w5 : World} {g off cap : Nat} {r : Rw} {tv : Value} (h : IxL c w x rv mt mi mm rws f ids st) (ha : Ch (fun _ => False) w wa) (hown : ORow 6 rwO w5 0 (.slice (some ⟨g, off, none⟩) (rws.length + 1) cap) (rws ++ [(r, tv)])) (hgrow : wa.grownBy w5 rv.ownBlock)
    (hg : rv.ownBlock = some g ∨ wa.heap.size ≤ g) (htv : VRow (fun k => c k = 7) 1 intO w tv r.r.tags) :
    IxL (fun k => if k = g then 2 else c k) (w5.setCell ⟨x, 0, none⟩ (.slice (some ⟨g, off, none⟩) (rws.length + 1) cap)) x (.slice (some ⟨g, off, none⟩) (rws.length + 1) cap) mt mi mm (rws ++ [(r, tv)]) f ids { st with rows := st.rows ++ [r] } := by
  have hsz := ha.size
  have hre : ∀ k, k < w.heap.size → (if k = g then 2 else c k) = c k := by
    intro k hk
    split
    · rename_i e
      subst e
      rcases hg with e | e
      · exact (h.rows.own k e).symm
      · omega
    · rfl
  have h' := h.re hre
  have hc4 : Ch (fun k => rv.ownBlock = some k) w w5 := (ha.mono (S' := fun k => rv.ownBlock = some k) (fun k e => e.elim)).step (Ch.of_grown hgrow) (fun k hk e => e.symm)
  have hc5 : Ch (fun k => (if k = g then 2 else c k) = 2) w w5 := hc4.mono (fun k e => by
    rw [hre k (h.rows.row.own e).2]
    exact h.rows.own k e)
  have hxg : x ≠ g := by
    intro e
    have h1 := hre x h.box.lt
    rw [if_pos e, h.cx] at h1
    cases h1
  have hc6 : Ch (fun k => (if k = g then 2 else c k) = 2 ∨ (if k = g then 2 else c k) = 1) w (w5.setCell ⟨x, 0, none⟩ (.slice (some ⟨g, off, none⟩) (rws.length + 1) cap)) :=
    (hc5.mono (fun k e => .inl e)).set (p := ⟨x, 0, none⟩) (.inr (.inr h'.cx)) _
  have no : ∀ {k n : Nat}, (if k = g then 2 else c k) = n → n ≠ 2 → n ≠ 1 → ¬ ((if k = g then 2 else c k) = 2 ∨ (if k = g then 2 else c k) = 1) := by
    intro k n e h3 h6 h
    rw [e] at h
    exact h.elim h3 h6
  refine ⟨?_, h'.cx, ⟨?_, fun g' e => ?_, ?_, fun p hp => ?_⟩, h'.grp.ch hc6 (fun k e => by rcases e with e | e <;> rw [e] <;> decide), h'.ids.ch hc6 (no h'.ci (by decide) (by decide)), h'.ci, h'.trs.ch hc6 (no h'.cm (by decide) (by decide)), h'.cm⟩
  · have := (h.box.ch hc5 (by rw [if_neg hxg, h.cx]; decide)).set 0 (.slice (some ⟨g, off, none⟩) (rws.length + 1) cap)
    simpa using this
  · exact hown.ch (S := (· = x)) ((Ch.refl (· = x) w5).set (p := ⟨x, 0, none⟩) (.inr rfl) _) (fun k e e2 => by simp [Value.ownBlock] at e; exact hxg (by rw [← e2, e]))
  · have e : g = g' := by simpa [Value.ownBlock] using e
    exact if_pos e.symm
  · rw [List.map_append, h.rows.fst]
    rfl
  · rcases List.mem_append.1 hp with hp | hp
    · exact (h'.rows.tgs p hp).ch hc6 (fun k hk => no hk (by decide) (by decide))
    · simp at hp
      subst hp
      exact (htv.mono (fun k hk e => by rw [hre k hk]; exact e)).ch hc6 (fun k hk => no hk (by decide) (by decide))
theorem put_mem {α β : Type} [DecidableEq α] (a : α) (n : β) : ∀ (l : List (α × β)) (p : α × β), p ∈ putA a n l → p = (a, n) ∨ p ∈ l
  | [], p, h => by
    simp [putA] at h
    exact .inl h
  | q :: l, p, h => by
    unfold putA at h
    split at h
    · rcases List.mem_cons.1 h with h | h
      · exact .inl h
      · exact .inr (List.mem_cons_of_mem _ h)
    · rcases List.mem_cons.1 h with h | h
      · exact .inr (h ▸ List.mem_cons_self)
      · exact (put_mem a n l p h).imp id (List.mem_cons_of_mem _)
theorem put_apart (t : Int) (n : Value × List Nat) : ∀ (l : List (Int × (Value × List Nat))), (l.Pairwise fun p q => ∀ g, p.2.1.ownBlock = some g → q.2.1.ownBlock ≠ some g) → (∀ q ∈ l, ∀ k, q.2.1.ownBlock = some k → n.1.ownBlock = some k → (getA t l).map (fun p => p.1.ownBlock) = some (some k)) →
    (putA t n l).Pairwise fun p q => ∀ g, p.2.1.ownBlock = some g → q.2.1.ownBlock ≠ some g
  | [], _, _ => by simp [putA]
  | p :: l, h, hN => by
    obtain ⟨h1, h2⟩ := List.pairwise_cons.1 h
    unfold putA
    split
    · rename_i hp
      refine List.pairwise_cons.2 ⟨fun q hq k e1 e2 => ?_, h2⟩
      have h3 := hN q (List.mem_cons_of_mem _ hq) k e2 e1
      simp only [getA, if_pos hp, Option.map_some, Option.some.injEq] at h3
      exact h1 q hq k h3 e2
    · rename_i hp
      have hg : getA t (p :: l) = getA t l := by simp only [getA, if_neg hp]
      rw [hg] at hN
      refine List.pairwise_cons.2 ⟨fun q hq k e1 e2 => ?_, put_apart t n l h2 (fun q hq => hN q (List.mem_cons_of_mem _ hq))⟩
      rcases put_mem t n l q hq with rfl | hq
      · have h3 := hN p List.mem_cons_self k e1 e2
        cases hga : getA t l with
        | none => rw [hga] at h3; cases h3
        | some r =>
          rw [hga] at h3
          simp only [Option.map_some, Option.some.injEq] at h3
          exact h1 _ (getA_mem hga) k e1 h3
      · exact h1 q hq k e1 e2
theorem put_other (t : Int) (n : Value × List Nat) : ∀ (l : List (Int × (Value × List Nat))), (l.Pairwise fun p q => ∀ g, p.2.1.ownBlock = some g → q.2.1.ownBlock ≠ some g) → ∀ p ∈ putA t n l, p = (t, n) ∨ (p ∈ l ∧ ∀ k, p.2.1.ownBlock = some k → (getA t l).map (fun q => q.1.ownBlock) ≠ some (some k))
  | [], _, p, hp => by
    simp [putA] at hp
    exact .inl hp
  | q :: l, h, p, hp => by
    obtain ⟨h1, h2⟩ := List.pairwise_cons.1 h
    unfold putA at hp
    split at hp
    · rename_i hq
      rcases List.mem_cons.1 hp with hp | hp
      · exact .inl hp
      · refine .inr ⟨List.mem_cons_of_mem _ hp, fun k e1 e2 => ?_⟩
        simp only [getA, if_pos hq, Option.map_some, Option.some.injEq] at e2
        exact h1 p hp k e2 e1
    · rename_i hq
      have hg : getA t (q :: l) = getA t l := by simp only [getA, if_neg hq]
      rw [hg]
      rcases List.mem_cons.1 hp with hp | hp
      · subst hp
        refine .inr ⟨List.mem_cons_self, fun k e1 e2 => ?_⟩
        cases hga : getA t l with
        | none => rw [hga] at e2; cases e2
        | some r =>
          rw [hga] at e2
          simp only [Option.map_some, Option.some.injEq] at e2
          exact h1 _ (getA_mem hga) k e1 e2
      · exact (put_other t n l h2 p hp).imp id (fun h => ⟨List.mem_cons_of_mem _ h.1, h.2⟩)
set_option maxRecDepth 100000 in
/-- A number is appended to a tag's. -/
theorem GroupsX.step (h : GroupsX c w mt f) (t : Int) :
    ∃ v, ORow 1 natO w 0 v (f t) ∧ (∀ g, v.ownBlock = some g → c g = 6) ∧ (∀ y : Later w, (Instr.lookup 91 (.map (some mt)) (.int .i64 t) false).run Try.prog y.w = .ok v y.w) ∧
      ∀ (n : Nat) (w5 : World) (g off cap : Nat), ORow 1 natO w5 0 (.slice (some ⟨g, off, none⟩) ((f t).length + 1) cap) (f t ++ [n]) → Ch (fun k => v.ownBlock = some k) w w5 → (v.ownBlock = some g ∨ w.heap.size ≤ g) →
        ∃ w6, (Instr.mapUpdate 91 (.map (some mt)) (.int .i64 t) (.slice (some ⟨g, off, none⟩) ((f t).length + 1) cap)).run Try.prog w5 = .ok () w6 ∧ GroupsX (fun k => if k = g then 6 else c k) w6 mt (fun u => if u = t then f t ++ [n] else f u) ∧ Ch (· = mt) w5 w6 ∧ w6.heap.size = w5.heap.size := by
  obtain ⟨v, r1, r2, r3⟩ := h.look t
  have hlk := r3
  obtain ⟨h0, tl, h1, h2, h3, h4⟩ := h
  have hlt := h1.lt
  have hv : v = ((getA t tl).map (·.1)).getD (.slice none 0 0) := by
    have e1 := h1.look (P := Try.prog) keyI Try.underlying91 (zeroInts _) t false
    have e2 := r3 ⟨w, Below.refl _ _⟩
    simp only at e2
    rw [e1] at e2
    injection e2 with e2
    rw [← e2]
    unfold lookV
    cases getA t tl <;> rfl
  refine ⟨v, r1, r2, hlk, fun n w5 g off cap hown hc hg => ?_⟩
  have hre : ∀ k, k < w.heap.size → (if k = g then 6 else c k) = c k := by
    intro k hk
    split
    · rename_i e
      subst e
      rcases hg with e | e
      · exact (r2 k e).symm
      · omega
    · rfl
  have hm5 : MapB w5 mt (Value.int .i64) Prod.fst tl := h1.ch hc (fun e => by have := r2 _ e; rw [h0] at this; cases this)
  obtain ⟨w6, hst, M6, c6, s6⟩ := hm5.store (P := Try.prog) keyI Try.underlying91 t (.slice (some ⟨g, off, none⟩) ((f t).length + 1) cap, f t ++ [n])
  have hgm : g ≠ mt := by
    rintro rfl
    have := hre g hlt
    rw [if_pos rfl, h0] at this
    cases this
  have hN : ∀ q ∈ tl, ∀ k, q.2.1.ownBlock = some k → (Value.slice (some ⟨g, off, none⟩) ((f t).length + 1) cap).ownBlock = some k → (getA t tl).map (fun p => p.1.ownBlock) = some (some k) := by
    intro q hq k e1 e2
    have e3 : g = k := by simpa [Value.ownBlock] using e2
    subst e3
    rcases hg with e | e
    · cases hga : getA t tl with
      | none =>
        rw [hv, hga] at e
        simp [Value.ownBlock] at e
      | some p =>
        rw [hv, hga] at e
        simpa using e
    · have := ((h3 q hq).1.own e1).2
      omega
  refine ⟨w6, hst, ⟨(if_neg (Ne.symm hgm)).trans h0, _, M6, fun u => ?_, fun p hp => ?_, put_apart t _ tl h4 hN⟩, c6, s6⟩
  · rw [getA_put]
    by_cases e : u = t
    · rw [if_pos e]
      simp only [e, if_true]
      rfl
    · rw [if_neg e]
      simp only [e, if_false]
      exact h2 u
  · rcases put_other t _ tl h4 p hp with rfl | ⟨hp, hpo⟩
    · exact ⟨hown.ch c6 (fun k e e2 => by simp [Value.ownBlock] at e; exact hgm (e.trans e2)), fun k e => if_pos (by simpa [Value.ownBlock] using e.symm)⟩
    · have hnv : ∀ k, p.2.1.ownBlock = some k → v.ownBlock ≠ some k := by
        intro k e1 e2
        refine hpo k e1 ?_
        cases hga : getA t tl with
        | none =>
          rw [hv, hga] at e2
          simp [Value.ownBlock] at e2
        | some r =>
          rw [hv, hga] at e2
          simpa using e2
      refine ⟨((h3 p hp).1.ch hc (fun k e => hnv k e)).ch c6 (fun k e e2 => ?_), fun k e => ?_⟩
      · have := (h3 p hp).2 k e
        rw [e2, h0] at this
        cases this
      · exact (hre k ((h3 p hp).1.own e).2).trans ((h3 p hp).2 k e)
end
end Go.Proofs.Ytpdibjaeopcimaa
