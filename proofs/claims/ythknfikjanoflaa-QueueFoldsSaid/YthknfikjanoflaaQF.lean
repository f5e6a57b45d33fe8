/- QueueFolds: the plain law: what each pop took, and what is there. -/
import Derived.Test.YthknfikjanoflaaQRW
set_option linter.unusedVariables false
set_option linter.unusedSimpArgs false
namespace Go.Proofs.Ythknfikjanoflaa
open Go.RowKit

def evAt (log : List ByteArray) (j : Nat) : Option Ev := match log[j]? with
  | some d => PE d
  | none => none
def pushAt (log : List ByteArray) (j : Nat) : Bool := match evAt log j with
  | some e => e.push
  | none => false
def itemAt (log : List ByteArray) (j : Nat) : ByteArray := match evAt log j with
  | some e => e.item
  | none => ⟨#[]⟩
/-- May data j be taken, where some are? -/
def freeB (log : List ByteArray) (outs : List Int) (j : Nat) : Bool := countsF log j && pushAt log j && !(outs.contains (j : Int))
def gotF (log : List ByteArray) (outs : List Int) (k : Nat) : Int :=
  if (countsF log k && !pushAt log k) = true then (match (List.range k).find? (freeB log outs) with | some j => (j : Int) | none => -1) else -1
def takesN (log : List ByteArray) : Nat → List Int
  | 0 => []
  | k + 1 => takesN log k ++ [gotF log (takesN log k) k]
theorem takesN_len (log : List ByteArray) : ∀ k, (takesN log k).length = k
  | 0 => rfl
  | k + 1 => by simp [takesN, takesN_len log k]
theorem gotF_lt (log : List ByteArray) (outs : List Int) (k : Nat) : gotF log outs k < (k : Int) := by
  unfold gotF
  split
  · split
    · rename_i j hj
      have := List.mem_of_find?_eq_some hj
      rw [List.mem_range] at this
      omega
    · omega
  · omega
theorem takesN_lt (log : List ByteArray) : ∀ k, ∀ x ∈ takesN log k, x < (k : Int)
  | 0, x, h => by simp [takesN] at h
  | k + 1, x, h => by
    unfold takesN at h
    rcases List.mem_append.1 h with h | h
    · have := takesN_lt log k x h
      omega
    · rw [List.mem_singleton] at h
      have := gotF_lt log (takesN log k) k
      omega
/-- What is there behind k data. -/
def thereN (log : List ByteArray) (k : Nat) : List Nat := (List.range k).filter (freeB log (takesN log k))
theorem thereN_sorted (log : List ByteArray) (k : Nat) : (thereN log k).Pairwise (· < ·) := (List.pairwise_lt_range).filter _
theorem freeB_snoc (log : List ByteArray) (outs : List Int) (x : Int) (j : Nat) : freeB log (outs ++ [x]) j = (freeB log outs j && !(x == (j : Int))) := by
  unfold freeB
  rw [List.contains_eq_any_beq, List.any_append, ← List.contains_eq_any_beq]
  simp only [List.any_cons, List.any_nil, Bool.or_false]
  cases countsF log j <;> cases pushAt log j <;> simp
  rw [Bool.beq_comm]
theorem find_head (p : Nat → Bool) : ∀ l : List Nat, l.find? p = (l.filter p).head?
  | [] => rfl
  | x :: l => by
    simp only [List.find?_cons, List.filter_cons]
    split
    · rename_i h; rw [h]; rfl
    · rename_i h; rw [h]; exact find_head p l

/-- The queue behind k data. -/
structure FoldAt (log : List ByteArray) (k : Nat) (st : QSt) : Prop where
  l : st.l.map (·.2) = thereN log k
  it : ∀ x ∈ st.l, x.1 = itemAt log x.2
  many : st.many = k
theorem thereN_succ (log : List ByteArray) (k : Nat) : thereN log (k + 1) = if (countsF log k && !pushAt log k) = true then (thereN log k).drop 1 else if (countsF log k && pushAt log k) = true then thereN log k ++ [k] else thereN log k := by
  have hk : freeB log (takesN log k) k = (countsF log k && pushAt log k) := by
    unfold freeB
    have : (takesN log k).contains (k : Int) = false := by
      rw [List.contains_eq_any_beq, List.any_eq_false]
      intro x hx
      have := takesN_lt log k x hx
      simp
      omega
    rw [this]
    simp
  have hg := gotF_lt log (takesN log k) k
  obtain ⟨g, hgd⟩ : ∃ g, g = gotF log (takesN log k) k := ⟨_, rfl⟩
  have e1 : thereN log (k + 1) = ((List.range k).filter fun j : Nat => !(g == (j : Int)) && freeB log (takesN log k) j) ++ (if (countsF log k && pushAt log k) = true then [k] else []) := by
    unfold thereN
    rw [List.range_succ, List.filter_append]
    show (List.filter (freeB log (takesN log k ++ [gotF log (takesN log k) k])) (List.range k)) ++ _ = _
    rw [← hgd] at hg ⊢
    congr 1
    · exact List.filter_congr fun j _ => by rw [freeB_snoc, Bool.and_comm]
    · simp only [List.filter_cons, List.filter_nil]
      show (if freeB log (takesN log k ++ [gotF log (takesN log k) k]) k = true then [k] else []) = _
      rw [← hgd, freeB_snoc, hk]
      have : (g == (k : Int)) = false := by simp; omega
      rw [this]
      simp
  rw [e1, ← List.filter_filter, show (List.range k).filter (freeB log (takesN log k)) = thereN log k from rfl]
  by_cases h1 : (countsF log k && !pushAt log k) = true
  · rw [if_pos h1]
    have hp : (countsF log k && pushAt log k) = false := by
      cases h2 : countsF log k <;> cases h3 : pushAt log k <;> simp_all
    rw [hp]
    have hgv : g = match (thereN log k).head? with | some j => (j : Int) | none => -1 := by
      rw [hgd]
      unfold gotF
      rw [if_pos h1, find_head]
      rfl
    have hs := thereN_sorted log k
    cases ht : thereN log k with
    | nil => simp
    | cons j t =>
      rw [ht] at hgv hs
      simp only [List.head?_cons] at hgv
      rw [hgv]
      simp only [Bool.false_eq_true, if_false, List.append_nil, List.drop_succ_cons, List.drop_zero]
      rw [List.filter_cons]
      simp only [beq_self_eq_true, Bool.not_true, Bool.false_eq_true, if_false]
      rw [List.filter_eq_self]
      intro x hx
      have := (List.pairwise_cons.1 hs).1 x hx
      simp
      omega
  · rw [if_neg h1]
    have hg1 : g = -1 := by
      rw [hgd]
      unfold gotF
      rw [if_neg h1]
    have hf : (thereN log k).filter (fun j : Nat => !(g == (j : Int))) = thereN log k := by
      rw [List.filter_eq_self]
      intro x _
      rw [hg1]
      simp
    rw [hf]
    by_cases h2 : (countsF log k && pushAt log k) = true
    · rw [if_pos h2, if_pos h2]
    · rw [if_neg h2, if_neg h2, List.append_nil]

theorem counts_new {log : List ByteArray} {k : Nat} {d : ByteArray} (hd : log[k]? = some d) : countsF log k = (addQ (runQ qst0 (log.take k)) (sB d)).2 := by
  rw [addQ_new]
  unfold countsF
  rw [hd]
  rfl
theorem pushAt_of {log : List ByteArray} {k : Nat} {d : ByteArray} (hd : log[k]? = some d) {e : Ev} (he : PE d = some e) : evAt log k = some e := by
  unfold evAt
  rw [hd]
  exact he
theorem take_snoc {log : List ByteArray} {k : Nat} {d : ByteArray} (hd : log[k]? = some d) : log.take (k + 1) = log.take k ++ [d] := by rw [List.take_add_one, hd]; rfl

/-- What the queue is behind k data of a log; what a pop that counts gets. -/
theorem fold_at {log : List ByteArray} : ∀ k, k ≤ log.length → FoldAt log k (runQ qst0 (log.take k))
  | 0, _ => ⟨rfl, by simp [runQ, qst0], rfl⟩
  | k + 1, hk => by
    have ih := fold_at (log := log) k (by omega)
    obtain ⟨d, hd⟩ : ∃ d, log[k]? = some d := ⟨_, List.getElem?_eq_getElem (by omega)⟩
    have hc := counts_new hd
    rw [take_snoc hd, runQ_snoc]
    obtain ⟨st, hst⟩ : ∃ st, st = runQ qst0 (log.take k) := ⟨_, rfl⟩
    rw [← hst] at ih hc ⊢
    have hm : (addQ st (sB d)).1.many = k + 1 := by rw [(addQ_len st (sB d)).2, ih.many]
    have hts := thereN_succ log k
    cases hp : PE d with
    | none =>
      have ha : addQ st (sB d) = ({ st with many := st.many + 1 }, false) := by unfold addQ; rw [show parseQ (sB d) = none from hp]
      rw [ha] at hc hm ⊢
      simp only at hc
      rw [hc] at hts
      simp only [Bool.false_and, Bool.false_eq_true, if_false] at hts
      exact ⟨by rw [hts]; exact ih.l, ih.it, hm⟩
    | some e =>
      have hev := pushAt_of hd hp
      have hpa : pushAt log k = e.push := by unfold pushAt; rw [hev]
      have hia : itemAt log k = e.item := by unfold itemAt; rw [hev]
      have ha : addQ st (sB d) = if e.push = true then pushQ { st with many := st.many + 1 } e else popQ { st with many := st.many + 1 } e := by unfold addQ; rw [show parseQ (sB d) = some e from hp]
      rw [ha] at hc hm ⊢
      by_cases hpu : e.push = true
      · rw [if_pos hpu] at hc hm ⊢
        rw [hpa, hpu] at hts
        unfold pushQ at hc hm ⊢
        by_cases hh : hadF { st with many := st.many + 1 } (e.id : Int) = true
        · rw [if_pos hh] at hc hm ⊢
          rw [hc] at hts
          simp only [Bool.false_and, Bool.false_eq_true, if_false] at hts
          exact ⟨by rw [hts]; exact ih.l, ih.it, hm⟩
        · rw [if_neg hh] at hc hm ⊢
          rw [hc] at hts
          simp only [Bool.not_true, Bool.and_false, Bool.false_eq_true, if_false, Bool.and_self, if_true] at hts
          refine ⟨?_, ?_, hm⟩
          · rw [hts]
            simp only [List.map_append, ih.l, List.map_cons, List.map_nil, ih.many]
            rfl
          · intro x hx
            simp only at hx
            rcases List.mem_append.1 hx with hx | hx
            · exact ih.it x hx
            · rw [List.mem_singleton] at hx
              rw [hx]
              simp only [ih.many]
              rw [show k + 1 - 1 = k by omega, hia]
      · rw [if_neg hpu] at hc hm ⊢
        have hpf : e.push = false := by simpa using hpu
        rw [hpa, hpf] at hts
        unfold popQ at hc hm ⊢
        by_cases hh : (getA (e.id : Int) ({ st with many := st.many + 1 } : QSt).po).isSome = true
        · rw [if_pos hh] at hc hm ⊢
          rw [hc] at hts
          simp only [Bool.false_and, Bool.false_eq_true, if_false] at hts
          exact ⟨by rw [hts]; exact ih.l, ih.it, hm⟩
        · rw [if_neg hh] at hc hm ⊢
          have hcl := ih.l
          cases hl : st.l with
          | nil =>
            rw [hl] at hc hcl
            simp only [hl] at hc hm ⊢
            rw [hc] at hts
            simp only [Bool.not_false, Bool.and_true, if_true] at hts
            exact ⟨by rw [hts, ← hcl]; rfl, by simp, hm⟩
          | cons x l =>
            rw [hl] at hc hcl
            simp only [hl] at hc hm ⊢
            rw [hc] at hts
            simp only [Bool.not_false, Bool.and_true, if_true] at hts
            exact ⟨by rw [hts, ← hcl]; rfl, fun y hy => ih.it y (by rw [hl]; exact List.mem_cons_of_mem _ hy), hm⟩
/-- What a pop that counts got. -/
theorem fold_got {log : List ByteArray} {k : Nat} {d : ByteArray} {e : Ev} (hd : log[k]? = some d) (he : PE d = some e) (hpu : e.push = false) (hc : countsF log k = true) :
    gotV (runQ qst0 (log.take (k + 1))) (e.id : Int) = if gotF log (takesN log k) k < 0 then .tuple #[.string ⟨#[]⟩, .bool false, .bool true] else .tuple #[.string (itemAt log (gotF log (takesN log k) k).toNat), .bool true, .bool true] := by
  have hlt := (List.getElem?_eq_some_iff.1 hd).1
  have ih := fold_at (log := log) k (by omega)
  have hcn := counts_new hd
  rw [take_snoc hd, runQ_snoc]
  obtain ⟨st, hst⟩ : ∃ st, st = runQ qst0 (log.take k) := ⟨_, rfl⟩
  rw [← hst] at ih hcn ⊢
  have hev := pushAt_of hd he
  have hpa : pushAt log k = false := by unfold pushAt; rw [hev]; exact hpu
  have hg : gotF log (takesN log k) k = match (thereN log k).head? with | some j => (j : Int) | none => -1 := by
    unfold gotF
    rw [hc, hpa, if_pos (by rfl), find_head]
    rfl
  have ha : addQ st (sB d) = popQ { st with many := st.many + 1 } e := by unfold addQ; rw [show parseQ (sB d) = some e from he]; simp [hpu]
  rw [hc, ha] at hcn
  rw [ha, hg, ← ih.l]
  unfold popQ at hcn ⊢
  by_cases hh : (getA (e.id : Int) ({ st with many := st.many + 1 } : QSt).po).isSome = true
  · rw [if_pos hh] at hcn
    cases hcn
  · rw [if_neg hh]
    cases hl : st.l with
    | nil =>
      simp only [hl, List.map_nil, List.head?_nil]
      unfold gotV
      simp only
      rw [getA_put, if_pos rfl]
      simp
    | cons x l =>
      simp only [hl, List.map_cons, List.head?_cons]
      unfold gotV
      simp only
      rw [getA_put, if_pos rfl, if_neg (show ¬ ((x.2 : Nat) : Int) < 0 by omega), Int.toNat_natCast, ih.it x (by rw [hl]; exact List.mem_cons_self ..)]
end Go.Proofs.Ythknfikjanoflaa
