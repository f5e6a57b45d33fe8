/- index: add. -/
import Derived.Test.YtpdibjaeopcimaaIg
set_option linter.unusedVariables false
set_option linter.unusedSimpArgs false
namespace Go.Proofs.Ytpdibjaeopcimaa
open Go.RowKit

/-- An item of the program's, as a value: its record's tags lie at tv. -/
def itemV (i : It) (tv : Value) : Value := .agg #[.int .i64 i.kind, .int .i64 i.seq.1, .int .i64 i.seq.2, .int .i64 i.r.id.1, .int .i64 i.r.id.2, tv, .string i.r.data, .int .i64 i.tag, .int .i64 i.upto.1, .int .i64 i.upto.2]
def itemC (i : It) (tv : Value) : Array Value := #[.int .i64 i.kind, .int .i64 i.seq.1, .int .i64 i.seq.2, .int .i64 i.r.id.1, .int .i64 i.r.id.2, tv, .string i.r.data, .int .i64 i.tag, .int .i64 i.upto.1, .int .i64 i.upto.2]
theorem getA_ids (rows : List Rw) (id : Pl) : (getA id (idsL rows)).isSome = rows.any (fun w => w.r.id == id) := by
  induction rows with
  | nil => rfl
  | cons r l ih =>
    have e : idsL (r :: l) = (r.r.id, r.pl) :: idsL l := rfl
    rw [e]
    unfold getA
    by_cases h : r.r.id = id
    · simp [h]
    · rw [if_neg h]
      rw [ih]
      have : (r.r.id == id) = false := by simpa using h
      simp [this]
theorem putA_new {α β : Type} [DecidableEq α] {a : α} {c : β} : ∀ {l : List (α × β)}, getA a l = none → putA a c l = l ++ [(a, c)]
  | [], _ => rfl
  | p :: l, h => by
    unfold getA at h
    split at h
    · cases h
    · rename_i hp
      rw [putA, if_neg hp, putA_new h]
      rfl
/-- What a step of the index leaves: no block of G has changed. -/
def XPost (G : Nat → Prop) (x : Nat) (st : XSt) (w w' : World) : Prop := Ix G w' x st ∧ Ch (fun k => ¬ G k) w w'

theorem IxL.ix {G : Nat → Prop} {c : Nat → Nat} {w : World} {x : Nat} {rv : Value} {mt mi mm : Nat} {rws : List (Rw × Value)} {st : XSt} (h : IxL c w x rv mt mi mm rws (fun t => numsF t 0 st.rows) (idsL st.rows) st) (hG : ∀ k, G k → k < w.heap.size ∧ c k = 0) : Ix G w x st := ⟨c, rv, mt, mi, mm, rws, h, hG⟩

theorem infoRow : (Try.prog.info? 108).map (fun i => (i.zero, i.size, i.bytes)) = some (some (.agg #[.int .i64 0, .int .i64 0, .int .i64 0, .int .i64 0, .slice none 0 0, .string ⟨#[]⟩]), 6, 72) := by kernel_rfl
theorem rwO_one (p : Rw × Value) (h : p.2.oneCell' = true) : ∀ u ∈ rwO p, u.oneCell' = true := by
  intro u hu
  simp [rwO] at hu
  rcases hu with rfl | rfl | rfl | rfl | rfl | rfl <;> first | rfl | exact h
theorem natO_one (n : Nat) : ∀ u ∈ natO n, u.oneCell' = true := by
  intro u hu
  simp [natO] at hu
  subst hu
  rfl
/-- One number is appended. -/
theorem step_append_num {w : World} {ops : Array Oper} {o : Oper} {a : Act} {K : Act → World → Prop} {Q : Exit → Act → World → Prop} {E : Prop} (hgd : o.guard = none) (s y : Operand)
    (ho : o.op = .call { callee := .builtin .append, args := #[s, y], argTypes := #[24, 24] }) {base p : Nat} {v : Value} {xs : List Nat} {x : Nat} (he : a.eval s = v) (hy : a.eval y = .slice (some ⟨p, 0, none⟩) 1 1)
    (hv : ORow 1 natO w base v xs) (hp : Blk w p #[.int .i64 (x : Nat)] 3) (hbase : base ≤ w.heap.size) (hl : xs.length ≤ 4194304)
    (h : ∀ g off cap w', ORow 1 natO w' base (.slice (some ⟨g, off, none⟩) (xs.length + 1) cap) (xs ++ [x]) → w.grownBy w' v.ownBlock → (v.ownBlock = some g ∨ w.heap.size ≤ g) → K (a.put o.dst (.slice (some ⟨g, off, none⟩) (xs.length + 1) cap)) w') :
    if Region.wanted o (yielded ops a.tmps) = true then Oper.wp Try.prog o a w K Q else E := by
  obtain ⟨i0, hinfo, hz0, hz1, hz2⟩ := info_parts infoInt
  refine step_append_off natO_len natO_one (by decide) hgd s y 24 ho hv Try.underlying24 hinfo hz0 hz1 hz2 rfl he hy (x := x) ?_ hbase (by unfold maxLen; omega) (by omega) h
  intro j u hu
  rw [hp.cell]
  simpa [natO] using hu

/-- One row is appended. -/
theorem step_append_row {w : World} {ops : Array Oper} {o : Oper} {a : Act} {K : Act → World → Prop} {Q : Exit → Act → World → Prop} {E : Prop} (hgd : o.guard = none) (s y : Operand)
    (ho : o.op = .call { callee := .builtin .append, args := #[s, y], argTypes := #[94, 94] }) {base p : Nat} {v : Value} {xs : List (Rw × Value)} {x : Rw × Value} (he : a.eval s = v) (hy : a.eval y = .slice (some ⟨p, 0, none⟩) 1 1)
    (h1 : x.2.oneCell' = true) (hv : ORow 6 rwO w base v xs) (hp : Blk w p #[.int .i64 x.1.pl.1, .int .i64 x.1.pl.2, .int .i64 x.1.r.id.1, .int .i64 x.1.r.id.2, x.2, .string x.1.r.data] 108) (hbase : base ≤ w.heap.size) (hl : xs.length ≤ 4194304)
    (h : ∀ g off cap w', ORow 6 rwO w' base (.slice (some ⟨g, off, none⟩) (xs.length + 1) cap) (xs ++ [x]) → w.grownBy w' v.ownBlock → (v.ownBlock = some g ∨ w.heap.size ≤ g) → K (a.put o.dst (.slice (some ⟨g, off, none⟩) (xs.length + 1) cap)) w') :
    if Region.wanted o (yielded ops a.tmps) = true then Oper.wp Try.prog o a w K Q else E := by
  obtain ⟨i0, hinfo, hz0, hz1, hz2⟩ := info_parts infoRow
  refine step_append_off' rwO_len (by decide) hgd s y 94 ho hv Try.underlying94 hinfo hz0 hz1 hz2 rfl he hy (x := x) (rwO_one x h1) ?_ hbase (by unfold maxLen; omega) (by omega) h
  intro j u hu
  rw [hp.cell]
  simpa [rwO] using hu

theorem wpList_append_zeroN {P : Program} {w : World} {ops : Array Oper} {rest : List Oper} {o : Oper} {a : Act} {Q : Exit → Act → World → Prop} (hgd : o.guard = none) (s x : Operand) (t : TypeId)
    (ho : o.op = .call { callee := .builtin .append, args := #[s, x], argTypes := #[t, t] }) {e g n cap : Nat} {ad : Option Addr} (ht : P.underlying t = some (.slice e)) (hi : (P.info? e).map (fun i => (i.zero, i.size, i.bytes)) = some (some (.int .i64 0), 1, 8))
    (hs : a.eval s = .slice (some ⟨g, 0, none⟩) n n) (hx : a.eval x = .slice ad 0 cap)
    (h : wpList P ops Q rest (a.put o.dst (.slice (some ⟨g, 0, none⟩) n n)) w) : wpList P ops Q (o :: rest) a w := by
  refine wpList_plain hgd fun K hK => ?_
  obtain ⟨i, hinfo, hz0, hz1, hz2⟩ := info_parts hi
  have hrun : (Builtin.append_ #[t, t] o.type #[.slice (some ⟨g, 0, none⟩) n n, .slice ad 0 cap]).run P w = .ok (.slice (some ⟨g, 0, none⟩) n n) w := by
    cases ad <;> simp [Builtin.append_, run_underlying ht, sizeOf, typeInfo, hinfo, Builtin.lenOf, Builtin.firstCells, loadCells, loadCellsFrom, storeCells]
  unfold Oper.wp
  simp [execOp, ho, resolve, invoke, builtin, hs, hx, hrun, Result.andThen]
  exact hK _ _ h
/-- The end of a list of numbers, whatever it is, is appended to one's own. -/
theorem wpList_append_ints {w : World} {ops : Array Oper} {rest : List Oper} {o : Oper} {a : Act} {Q : Exit → Act → World → Prop} (hgd : o.guard = none) (s y : Operand)
    (ho : o.op = .call { callee := .builtin .append, args := #[s, y], argTypes := #[24, 24] }) {S : Nat → Prop} {g0 n : Nat} {src : Value} {xs ys : List Int} (he : a.eval s = .slice (some ⟨g0, 0, none⟩) n n) (hy : a.eval y = src)
    (hown : w.ownsRow 0 3 1 (.slice (some ⟨g0, 0, none⟩) n n) n (xs.map (Value.int .i64))) (hv : VRow S 1 intO w src ys) (hn : xs.length = n) (hl : n ≤ 4194304) (hl2 : ys.length ≤ 4194304)
    (h : ∀ a2 cap w', VRow (fun k => k = g0 ∨ w.heap.size ≤ k) 1 intO w' (.slice a2 (n + ys.length) cap) (xs ++ ys) → Ch (fun k => k = g0) w w' → wpList Try.prog ops Q rest (a.put o.dst (.slice a2 (n + ys.length) cap)) w') : wpList Try.prog ops Q (o :: rest) a w := by
  obtain ⟨r1, r2, r3, r4, r5, r6⟩ := ownsRow_there hown
  have hself : VRow (fun k => k = g0 ∨ w.heap.size ≤ k) 1 intO w (.slice (some ⟨g0, 0, none⟩) (n + 0) n) (xs ++ []) := by
    rw [List.append_nil]
    refine ⟨_, n, by rw [hn]; rfl, by omega, r4, fun i x hx => ⟨g0, 0, rfl, r2, .inl rfl, fun j u hu => ?_⟩⟩
    have := r6 i (.int .i64 x) (by rw [List.getElem?_map, hx]; rfl)
    simp only [intO] at hu
    obtain ⟨rfl, rfl⟩ : j = 0 ∧ u = .int .i64 x := by
      cases j with
      | zero => simp at hu; exact ⟨rfl, hu.symm⟩
      | succ j => simp at hu
    simpa using this
  obtain ⟨i0, hinfo, hz0, hz1, hz2⟩ := info_parts infoInt
  obtain ⟨ad, cap, rfl, h2, h3, h4⟩ := hv
  cases ys with
  | nil =>
    exact wpList_append_zeroN hgd s y 24 ho Try.underlying24 infoInt he hy (h (some ⟨g0, 0, none⟩) n w hself (Ch.refl _ _))
  | cons z zs =>
    obtain ⟨b, off, e, hb, _⟩ := h4 0 z rfl
    cases e
    refine wpList_append_lies _ hgd s y 24 ho 0 3 i0 (.int .i64 0) 1 8 Try.underlying24 hinfo hz0 hz1 hz2 rfl (by decide) _ n (xs.map (Value.int .i64)) he hown ⟨b, off, none⟩ (z :: zs).length cap ((z :: zs).map (Value.int .i64)) hy (by simp) ?_ ?_ (by simp) (by unfold maxLen; omega) (by omega) (Nat.zero_le _) w.heap.size rfl ?_
    · intro j u hu
      rw [List.getElem?_map] at hu
      obtain ⟨q, hq, rfl⟩ := Option.map_eq_some_iff.1 hu
      obtain ⟨b', off', e, _, _, hc⟩ := h4 j q hq
      cases e
      rw [Addr.add_mid]
      simpa using hc 0 _ rfl
    · intro u hu
      obtain ⟨q, _, rfl⟩ := List.mem_map.1 hu
      rfl
    · intro g cap2 w2 hown2 hgrow hg hlt
      refine h (some ⟨g, 0, none⟩) cap2 w2 ?_ ((Ch.of_grown hgrow).mono (fun k e => by simpa [Value.ownBlock] using e))
      obtain ⟨s1, s2, s3, s4, s5, s6⟩ := ownsRow_there hown2
      rw [← List.map_append] at s6
      refine ⟨_, cap2, by rw [List.length_append, hn], by rw [List.length_append, hn]; exact s3, s4, fun i x hx => ⟨g, 0, rfl, s2, ?_, fun j u hu => ?_⟩⟩
      · rcases hg with e | e
        · left
          simpa [Value.ownBlock] using e.symm
        · right
          omega
      · have := s6 i (.int .i64 x) (by rw [List.getElem?_map, hx]; rfl)
        simp only [intO] at hu
        obtain ⟨rfl, rfl⟩ : j = 0 ∧ u = .int .i64 x := by
          cases j with
          | zero => simp at hu; exact ⟨rfl, hu.symm⟩
          | succ j => simp at hu
        simpa using this
end Go.Proofs.Ytpdibjaeopcimaa
