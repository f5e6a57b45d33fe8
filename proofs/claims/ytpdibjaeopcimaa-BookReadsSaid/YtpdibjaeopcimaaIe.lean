/- index: Range. -/
import Derived.Test.YtpdibjaeopcimaaId
import Derived.Test.YtpdibjaeopcimaaTail
import Derived.Deep.RegionLaw
set_option linter.unusedVariables false
set_option linter.unusedSimpArgs false
namespace Go.Proofs.Ytpdibjaeopcimaa
open Go.RowKit

def rangeR (rl : List Rw) (a b : Pl) : List Rw := rl.filter fun w => !lessP w.pl a && lessP w.pl b
def rangeX (st : XSt) (t : Int) (a b : Pl) : List Pl := (rangeR (countX st t) a b).map (·.pl)
theorem range_cut {rl : List Rw} (h : rowsUp rl) (a b : Pl) : (rl.drop (firstN rl a)).take (firstN rl b - firstN rl a) = rangeR rl a b := by
  obtain ⟨d1, _⟩ := firstN_parts h a
  have hup : rowsUp (rl.filter fun w => !lessP w.pl a) := h.filter _
  obtain ⟨_, d2⟩ := firstN_parts hup b
  have e : firstN rl b - firstN rl a = firstN (rl.filter fun w => !lessP w.pl a) b := by
    unfold firstN
    clear d1 d2 hup h
    by_cases hab : lessP b a = true
    · have h1 : ∀ l : List Rw, (l.filter fun r => lessP r.pl b).length ≤ (l.filter fun r => lessP r.pl a).length := by
        intro l
        induction l with
        | nil => simp
        | cons x l ih =>
          simp only [List.filter_cons]
          by_cases hx : lessP x.pl b = true
          · rw [if_pos hx, if_pos (less_trans hx hab)]
            simpa using ih
          · rw [if_neg hx]
            split
            · simp; omega
            · exact ih
      have h2 : ((rl.filter fun w => !lessP w.pl a).filter fun r => lessP r.pl b) = [] := by
        rw [List.filter_filter, List.filter_eq_nil_iff]
        intro x _ hx
        simp only [Bool.and_eq_true, Bool.not_eq_true'] at hx
        have := less_trans hx.1 hab
        rw [hx.2] at this
        cases this
      rw [h2]
      have := h1 rl
      simp
      omega
    · have h1 : ∀ l : List Rw, (l.filter fun r => lessP r.pl b).length = (l.filter fun r => lessP r.pl a).length + ((l.filter fun w => !lessP w.pl a).filter fun r => lessP r.pl b).length := by
        intro l
        induction l with
        | nil => simp
        | cons x l ih =>
          simp only [List.filter_cons]
          by_cases hx : lessP x.pl a = true
          · rw [if_pos hx, if_pos (less_le' hx (by simpa using hab))]
            simp [hx, ih]
            omega
          · simp only [hx, Bool.not_false, if_true, List.filter_cons]
            simp only [Bool.not_eq_true] at hx
            split <;> simp [ih] <;> omega
      have := h1 rl
      omega
  rw [d1, e, d2]
  unfold rangeR
  rw [List.filter_filter]
  exact List.filter_congr fun x _ => by rw [Bool.and_comm]
def PRow (w : World) (base : Nat) (v : Value) (xs : List Pl) : Prop := ORow 2 plO w base v xs
theorem infoSeq : (Try.prog.info? 39).map (fun i => (i.zero, i.size, i.bytes)) = some (some (.agg #[.int .i64 0, .int .i64 0]), 2, 16) := by kernel_rfl
theorem plO_one (x : Pl) : ∀ u ∈ plO x, u.oneCell' = true := by
  intro u hu
  simp [plO] at hu
  rcases hu with rfl | rfl <;> rfl
/-- One place is appended. -/
theorem wpList_append_seq {w : World} {ops : Array Oper} {rest : List Oper} {o : Oper} {a : Act} {Q : Exit → Act → World → Prop} (hgd : o.guard = none) (s y : Operand)
    (ho : o.op = .call { callee := .builtin .append, args := #[s, y], argTypes := #[56, 56] }) {base p : Nat} {v : Value} {xs : List Pl} {x : Pl} (he : a.eval s = v) (hy : a.eval y = .slice (some ⟨p, 0, none⟩) 1 1)
    (hv : PRow w base v xs) (hp : Blk w p #[.int .i64 x.1, .int .i64 x.2] 39) (hbase : base ≤ w.heap.size) (hl : xs.length ≤ 4194304)
    (h : ∀ g off cap w', PRow w' base (.slice (some ⟨g, off, none⟩) (xs.length + 1) cap) (xs ++ [x]) → w.grownBy w' v.ownBlock → (v.ownBlock = some g ∨ w.heap.size ≤ g) → wpList Try.prog ops Q rest (a.put o.dst (.slice (some ⟨g, off, none⟩) (xs.length + 1) cap)) w') : wpList Try.prog ops Q (o :: rest) a w := by
  obtain ⟨i0, hinfo, hz0, hz1, hz2⟩ := info_parts infoSeq
  refine wpList_append_off plO_len plO_one (by decide) hgd s y 56 ho hv Try.underlying56 hinfo hz0 hz1 hz2 rfl he hy (x := x) ?_ hbase (by unfold maxLen; omega) (by omega) h
  intro j u hu
  rw [hp.cell]
  simpa [plO] using hu

theorem step_append_seq {w : World} {ops : Array Oper} {o : Oper} {a : Act} {K : Act → World → Prop} {Q : Exit → Act → World → Prop} {E : Prop} (hgd : o.guard = none) (s y : Operand)
    (ho : o.op = .call { callee := .builtin .append, args := #[s, y], argTypes := #[56, 56] }) {base p : Nat} {v : Value} {xs : List Pl} {x : Pl} (he : a.eval s = v) (hy : a.eval y = .slice (some ⟨p, 0, none⟩) 1 1)
    (hv : PRow w base v xs) (hp : Blk w p #[.int .i64 x.1, .int .i64 x.2] 39) (hbase : base ≤ w.heap.size) (hl : xs.length ≤ 4194304)
    (h : ∀ g off cap w', PRow w' base (.slice (some ⟨g, off, none⟩) (xs.length + 1) cap) (xs ++ [x]) → w.grownBy w' v.ownBlock → (v.ownBlock = some g ∨ w.heap.size ≤ g) → K (a.put o.dst (.slice (some ⟨g, off, none⟩) (xs.length + 1) cap)) w') :
    if Region.wanted o (yielded ops a.tmps) = true then Oper.wp Try.prog o a w K Q else E := by
  obtain ⟨i0, hinfo, hz0, hz1, hz2⟩ := info_parts infoSeq
  refine step_append_off plO_len plO_one (by decide) hgd s y 56 ho hv Try.underlying56 hinfo hz0 hz1 hz2 rfl he hy (x := x) ?_ hbase (by unfold maxLen; omega) (by omega) h
  intro j u hu
  rw [hp.cell]
  simpa [plO] using hu

def RangePost (l : List Pl) (w : World) (e : Ending) (w' : World) : Prop := ∃ v, e = .returned v ∧ PRow w' w.heap.size v l ∧ Below w.heap.size w w'
/-- Range's loop. -/
def RgIn (w w0 : World) (rl : List Rw) (k1 k2 : Nat) (v10 v11 : Value) (wi : World) : Prop :=
  ∃ j u, u = v10 ∧ v11 = .int .i64 ((k1 + j : Nat) : Int) ∧ j ≤ k2 - k1 ∧ PRow wi w.heap.size u (((rl.drop k1).take j).map (·.pl)) ∧ Below w0.heap.size w0 wi ∧ (∀ g, u.ownBlock = some g → w0.heap.size ≤ g)
theorem rg_next {k1 j m : Nat} (h : k1 + j = m) : Value.int .i64 ((m : Int) + 1) = .int .i64 ((k1 + (j + 1) : Nat) : Int) := by
  rw [← h]
  simp
  omega
theorem rg_le {k1 k2 j m : Nat} (h : k1 + j = m) (h2 : m < k2) : j + 1 ≤ k2 - k1 := by omega
theorem rg_meas {k1 k2 j m : Nat} (h : k1 + j = m) (h2 : m < k2) : k1 + (k2 - k1) - (intOf (.int .i64 ((m : Int) + 1))).toNat < k1 + (k2 - k1) - (intOf (.int .i64 (m : Int))).toNat := by
  simp only [intOf]
  omega
end Go.Proofs.Ytpdibjaeopcimaa
