/- QueueTrims: the plain law; two queues that the call owns. -/
import Derived.Test.YthknfikjanoflaaRQC
set_option linter.unusedVariables false
set_option linter.unusedSimpArgs false
namespace Go.Proofs.Ythknfikjanoflaa
open Go.RowKit

/-- Did an event come already? -/
def SeenE (st : QSt) (e : Ev) : Prop := if e.push = true then hadF st (e.id : Int) = true else (getA (e.id : Int) st.po).isSome = true
theorem addQ_seen (st : QSt) (l : List Nat) (e : Ev) : SeenE (addQ st l).1 e ↔ SeenE st e ∨ sameO e (parseQ l) = true := by
  unfold addQ
  cases hp : parseQ l with
  | none => simp [sameO, SeenE, hadF]
  | some f =>
    simp only [sameO, sameE]
    obtain ⟨ep, eid, eit⟩ := e
    obtain ⟨fp, fid, fit⟩ := f
    cases fp with
    | true =>
      simp only [if_true]
      unfold pushQ
      simp only
      by_cases hh : hadF { st with many := st.many + 1 } (fid : Int) = true
      · rw [if_pos hh]
        have hh2 : hadF st (fid : Int) = true := hh
        cases ep with
        | true =>
          unfold SeenE
          simp only [if_true]
          constructor
          · exact fun h => .inl h
          · rintro (h | h)
            · exact h
            · have : fid = eid := by simpa using h
              rw [← this]
              exact hh
        | false =>
          unfold SeenE
          simp [hadF]
      · rw [if_neg hh]
        cases ep with
        | true =>
          unfold SeenE hadF
          simp only [if_true]
          rw [getA_put]
          by_cases h1 : eid = fid
          · simp [h1]
          · rw [if_neg (by omega)]
            simp [Ne.symm h1]
        | false =>
          unfold SeenE
          simp
    | false =>
      simp only [Bool.false_eq_true, if_false]
      unfold popQ
      simp only
      by_cases hh : (getA (fid : Int) st.po).isSome = true
      · rw [if_pos hh]
        cases ep with
        | true => unfold SeenE; simp [hadF]
        | false =>
          unfold SeenE
          simp only [Bool.false_eq_true, if_false]
          constructor
          · exact fun h => .inl h
          · rintro (h | h)
            · exact h
            · have : fid = eid := by simpa using h
              rw [← this]
              exact hh
      · rw [if_neg hh]
        have key : ∀ (c : ByteArray × Bool) (l' : List (ByteArray × Nat)), SeenE { many := st.many + 1, l := l', pu := st.pu, po := putA (fid : Int) c st.po } ⟨ep, eid, eit⟩ ↔ SeenE st ⟨ep, eid, eit⟩ ∨ ((false == ep) && (fid == eid)) = true := by
          intro c l'
          cases ep with
          | true => unfold SeenE; simp [hadF]
          | false =>
            unfold SeenE
            simp only [Bool.false_eq_true, if_false]
            rw [getA_put]
            by_cases h1 : eid = fid
            · simp [h1]
            · rw [if_neg (by omega)]
              simp [Ne.symm h1]
        cases hl : st.l with
        | nil => exact key _ _
        | cons x l' => exact key _ _
theorem run_seen : ∀ (log : List ByteArray) (st : QSt) (e : Ev), SeenE (runQ st log) e ↔ SeenE st e ∨ (log.any fun x => sameO e (PE x)) = true
  | [], st, e => by simp [runQ]
  | d :: log, st, e => by
    have h1 := run_seen log (addQ st (sB d)).1 e
    have h2 := addQ_seen st (sB d) e
    have e1 : runQ st (d :: log) = runQ (addQ st (sB d)).1 log := rfl
    rw [e1, h1, h2]
    simp only [List.any_cons, Bool.or_eq_true, PE]
    constructor
    · rintro ((h | h) | h)
      · exact .inl h
      · exact .inr (.inl h)
      · exact .inr (.inr h)
    · rintro (h | h | h)
      · exact .inl (.inl h)
      · exact .inl (.inr h)
      · exact .inr h
theorem run0_seen (log : List ByteArray) (e : Ev) : SeenE (runQ qst0 log) e ↔ newE log e = false := by
  rw [run_seen]
  unfold newE
  have : ¬ SeenE qst0 e := by unfold SeenE qst0; simp [hadF, getA]
  simp [this]
/-- What an addition tells: does the data count? -/
theorem addQ_new (log : List ByteArray) (d : ByteArray) : (addQ (runQ qst0 log) (sB d)).2 = match PE d with | some e => newE log e | none => false := by
  unfold PE
  cases hp : parseQ (sB d) with
  | none => unfold addQ; rw [hp]
  | some e =>
    have h := run0_seen log e
    unfold addQ
    rw [hp]
    simp only
    obtain ⟨ep, eid, eit⟩ := e
    cases ep with
    | true =>
      simp only [if_true]
      unfold SeenE at h
      simp only [if_true] at h
      unfold pushQ
      by_cases hh : hadF (runQ qst0 log) (eid : Int) = true
      · rw [if_pos (show hadF { runQ qst0 log with many := (runQ qst0 log).many + 1 } (eid : Int) = true from hh), h.1 hh]
      · rw [if_neg (show ¬ hadF { runQ qst0 log with many := (runQ qst0 log).many + 1 } (eid : Int) = true from hh)]
        cases hn : newE log ⟨true, eid, eit⟩
        · exact absurd (h.2 hn) hh
        · rfl
    | false =>
      simp only [Bool.false_eq_true, if_false]
      unfold SeenE at h
      simp only [Bool.false_eq_true, if_false] at h
      unfold popQ
      by_cases hh : (getA (eid : Int) (runQ qst0 log).po).isSome = true
      · rw [if_pos hh, h.1 hh]
      · rw [if_neg hh]
        cases hn : newE log ⟨false, eid, eit⟩
        · exact absurd (h.2 hn) hh
        · cases (runQ qst0 log).l <;> rfl

/-- Where an item came lies in the log. -/
theorem run_at : ∀ (log : List ByteArray) (st : QSt), (∀ x ∈ st.l, x.2 < st.many) → ∀ x ∈ (runQ st log).l, x.2 < (runQ st log).many
  | [], _, h => h
  | d :: log, st, h => by
    refine run_at log (addQ st (sB d)).1 ?_
    unfold addQ
    split
    · intro x hx
      exact Nat.lt_succ_of_lt (h x hx)
    · split
      · unfold pushQ
        split
        · intro x hx
          exact Nat.lt_succ_of_lt (h x hx)
        · intro x hx
          simp only at hx ⊢
          rcases List.mem_append.1 hx with hx | hx
          · exact Nat.lt_succ_of_lt (h x hx)
          · rw [List.mem_singleton] at hx
            rw [hx]
            simp
      · unfold popQ
        split
        · intro x hx
          exact Nat.lt_succ_of_lt (h x hx)
        · simp only
          cases hl : st.l with
          | nil => intro x hx; simp [hl] at hx
          | cons y l =>
            intro x hx
            simp only at hx ⊢
            exact Nat.lt_succ_of_lt (h x (by rw [hl]; exact List.mem_cons_of_mem _ hx))

/-- From the n-th data on each is a push that counts. -/
def Free (log : List ByteArray) (n i : Nat) : Prop := ∀ j, n ≤ j → j < i → ∃ d e, log[j]? = some d ∧ PE d = some e ∧ e.push = true ∧ newE (log.take j) e = true
theorem add_push {st : QSt} {d : ByteArray} {e : Ev} (hp : PE d = some e) (hpu : e.push = true) (hs : ¬ SeenE st e) :
    (addQ st (sB d)).1.l = st.l ++ [(e.item, st.many)] ∧ (addQ st (sB d)).1.po = st.po := by
  unfold SeenE at hs
  rw [if_pos hpu] at hs
  have he : (addQ st (sB d)).1 = { st with many := st.many + 1, pu := putA (e.id : Int) true st.pu, l := st.l ++ [(e.item, st.many + 1 - 1)] } := by
    unfold addQ
    rw [show parseQ (sB d) = some e from hp]
    simp only
    rw [if_pos hpu]
    unfold pushQ
    rw [if_neg (show ¬ hadF { st with many := st.many + 1 } (e.id : Int) = true from hs)]
  rw [he]
  exact ⟨rfl, rfl⟩
theorem newE_sub {X Y : List ByteArray} {e : Ev} (h : newE X e = true) (hs : ∀ x ∈ Y, x ∈ X) : newE Y e = true := by
  unfold newE at h ⊢
  simp only [Bool.not_eq_true', List.any_eq_false] at h ⊢
  exact fun x hx => h x (hs x hx)
theorem free_run {log : List ByteArray} {n : Nat} : ∀ (k : Nat), n + k ≤ log.length → Free log n (n + k) →
    ∃ L : List (ByteArray × Nat), (runQ qst0 (log.take (n + k))).l = (runQ qst0 (log.take n)).l ++ L ∧ (runQ qst0 ((log.drop n).take k)).l.map (·.1) = L.map (·.1) ∧ (runQ qst0 ((log.drop n).take k)).po = []
  | 0, _, _ => ⟨[], by simp, rfl, rfl⟩
  | k + 1, hk, hf => by
    obtain ⟨L, h1, h2, h3⟩ := free_run k (by omega) (fun j hj1 hj2 => hf j hj1 (by omega))
    obtain ⟨d, e, hd, hp, hpu, hn⟩ := hf (n + k) (by omega) (by omega)
    have e1 : log.take (n + (k + 1)) = log.take (n + k) ++ [d] := by
      rw [show n + (k + 1) = (n + k) + 1 by omega, List.take_add_one, hd]
      rfl
    have e2 : (log.drop n).take (k + 1) = (log.drop n).take k ++ [d] := by
      rw [List.take_add_one, List.getElem?_drop, hd]
      rfl
    rw [e1, e2, runQ_snoc, runQ_snoc]
    have n1 : ¬ SeenE (runQ qst0 (log.take (n + k))) e := by rw [run0_seen, hn]; simp
    have n2 : ¬ SeenE (runQ qst0 ((log.drop n).take k)) e := by
      rw [run0_seen, newE_sub hn]
      · simp
      · intro x hx
        obtain ⟨i, hi⟩ := List.getElem?_of_mem hx
        have hlt := (List.getElem?_eq_some_iff.1 hi).1
        have hik : i < k := by rw [List.length_take] at hlt; omega
        rw [List.getElem?_take_of_lt hik, List.getElem?_drop] at hi
        exact List.mem_of_getElem? (i := n + i) (by rw [List.getElem?_take_of_lt (by omega)]; exact hi)
    obtain ⟨a1, _⟩ := add_push hp hpu n1
    obtain ⟨a3, a4⟩ := add_push hp hpu n2
    refine ⟨L ++ [(e.item, (runQ qst0 (log.take (n + k))).many)], ?_, ?_, ?_⟩
    · rw [a1, h1, List.append_assoc]
    · rw [a3]
      simp [h2]
    · rw [a4, h3]
/-- What need not be kept, where what is kept is pushes that count. -/
theorem trims_law {log : List ByteArray} (hf : Free log (leastF (runQ qst0 log)) log.length) : leastF (runQ qst0 log) ≤ log.length ∧
    (runQ qst0 (log.drop (leastF (runQ qst0 log)))).l.map (·.1) = (runQ qst0 log).l.map (·.1) ∧ (runQ qst0 (log.drop (leastF (runQ qst0 log)))).po = [] := by
  have hat := run_at log qst0 (by intro x hx; simp [qst0] at hx)
  have hm := (runQ_len log qst0).2
  have hm0 : qst0.many = 0 := rfl
  obtain ⟨n, hn⟩ : ∃ n, n = leastF (runQ qst0 log) := ⟨_, rfl⟩
  rw [← hn] at hf ⊢
  have hnl : n ≤ log.length := by
    rw [hn]
    unfold leastF
    split
    · omega
    · rename_i x l hl
      have := hat x (by rw [hl]; exact List.mem_cons_self ..)
      omega
  obtain ⟨L, h1, h2, h3⟩ := free_run (log := log) (n := n) (log.length - n) (by omega) (by rw [show n + (log.length - n) = log.length by omega]; exact hf)
  rw [show n + (log.length - n) = log.length by omega, List.take_length] at h1
  rw [show (log.drop n).take (log.length - n) = log.drop n from List.take_of_length_le (by simp)] at h2 h3
  have hnil : (runQ qst0 (log.take n)).l = [] := by
    cases hq : (runQ qst0 (log.take n)).l with
    | nil => rfl
    | cons x l =>
      exfalso
      have h5 := run_at (log.take n) qst0 (by intro x hx; simp [qst0] at hx) x (by rw [hq]; exact List.mem_cons_self ..)
      have h6 := (runQ_len (log.take n) qst0).2
      rw [List.length_take] at h6
      have h7 : leastF (runQ qst0 log) = x.2 := by unfold leastF; rw [h1, hq]; rfl
      omega
  rw [hnil, List.nil_append] at h1
  exact ⟨hnl, by rw [h1, h2], h3⟩
theorem least_le (log : List ByteArray) : leastF (runQ qst0 log) ≤ log.length := by
  have hat := run_at log qst0 (by intro x hx; simp [qst0] at hx)
  have hm := (runQ_len log qst0).2
  have hm0 : qst0.many = 0 := rfl
  unfold leastF
  split
  · omega
  · rename_i x l hl
    have := hat x (by rw [hl]; exact List.mem_cons_self ..)
    omega
end Go.Proofs.Ythknfikjanoflaa
