/- index: plain words: records, rows, items; what an index holds; what counts for a tag; how a search finds it. No program in sight. -/
import Derived.Test.YtpdibjaeopcimaaI
import Derived.Test.YtpdibjaeopcimaaMap
set_option linter.unusedVariables false
set_option linter.unusedSimpArgs false
namespace Go.Proofs.Ytpdibjaeopcimaa
open Go.RowKit

structure Rc where
  id : Pl
  tags : List Int
  data : ByteArray
structure Rw where
  pl : Pl
  r : Rc
structure It where
  kind : Int
  seq : Pl
  r : Rc
  tag : Int
  upto : Pl
  far : Pl
/-- What an index holds. -/
structure XSt where
  rows : List Rw
  last : Pl
  tr : List (Int × Pl)
  applied : Nat
def xst0 : XSt := ⟨[], (0, 0), [], 0⟩

theorem less_iff {a b : Pl} : lessP a b = true ↔ a.1 < b.1 ∨ (a.1 = b.1 ∧ a.2 < b.2) := by simp [lessP]
theorem less_irr (a : Pl) : lessP a a = false := by rw [← Bool.not_eq_true, less_iff]; omega
theorem less_trans {a b c : Pl} (h : lessP a b = true) (h2 : lessP b c = true) : lessP a c = true := by rw [less_iff] at *; omega
theorem less_asymm {a b : Pl} (h : lessP a b = true) : lessP b a = false := by rw [← Bool.not_eq_true]; rw [less_iff] at *; omega
theorem less_total {a b : Pl} (h : lessP a b = false) (h2 : lessP b a = false) : a = b := by
  rw [← Bool.not_eq_true, less_iff] at h h2
  exact Prod.ext (by omega) (by omega)
theorem less_le {a b c : Pl} (h : lessP b a = false) (h2 : lessP b c = true) : lessP a c = true := by rw [← Bool.not_eq_true] at h; rw [less_iff] at *; omega
theorem less_le' {a b c : Pl} (h : lessP a b = true) (h2 : lessP c b = false) : lessP a c = true := by rw [← Bool.not_eq_true] at h2; rw [less_iff] at *; omega

def hasR (r : Rc) (t : Int) : Bool := t == 0 || r.tags.contains t
def behindX (st : XSt) (t : Int) (a : Pl) : Bool := match getA t st.tr with
  | none => true
  | some u => lessP u a
def bothX (st : XSt) (t : Int) (a : Pl) : Bool := behindX st t a && behindX st 0 a
def tagX (st : XSt) (t : Int) : List Rw := st.rows.filter fun w => hasR w.r t
def countX (st : XSt) (t : Int) : List Rw := (tagX st t).filter fun w => bothX st t w.pl
/-- The numbers of the rows that have a tag. -/
def numsF (t : Int) : Nat → List Rw → List Nat
  | _, [] => []
  | k, w :: l => if hasR w.r t = true then k :: numsF t (k + 1) l else numsF t (k + 1) l
theorem numsF_snoc (t : Int) (w : Rw) : ∀ (l : List Rw) (k : Nat), numsF t k (l ++ [w]) = numsF t k l ++ (if hasR w.r t = true then [k + l.length] else [])
  | [], k => by simp [numsF]
  | x :: l, k => by
    simp only [List.cons_append, numsF, numsF_snoc t w l (k + 1), List.length_cons]
    rw [show k + 1 + l.length = k + (l.length + 1) by omega]
    split <;> simp
theorem numsF_len (t : Int) : ∀ (l : List Rw) (k : Nat), (numsF t k l).length = (l.filter fun w => hasR w.r t).length
  | [], _ => rfl
  | x :: l, k => by
    simp only [numsF, List.filter_cons]
    split <;> simp [numsF_len t l (k + 1)]
theorem numsF_at (t : Int) : ∀ (l : List Rw) (k i n : Nat), (numsF t k l)[i]? = some n → k ≤ n ∧ ∃ w, l[n - k]? = some w ∧ (l.filter fun w => hasR w.r t)[i]? = some w
  | [], _, _, _, h => by simp [numsF] at h
  | x :: l, k, i, n, h => by
    simp only [numsF, List.filter_cons] at h ⊢
    split at h
    · rename_i hx
      simp only [hx, if_true]
      match i, h with
      | 0, h =>
        simp at h
        subst h
        exact ⟨Nat.le_refl _, x, by simp⟩
      | i + 1, h =>
        obtain ⟨h1, w, h2, h3⟩ := numsF_at t l (k + 1) i n (by simpa using h)
        refine ⟨by omega, w, ?_, by simpa using h3⟩
        rw [show n - k = (n - (k + 1)) + 1 by omega]
        simpa using h2
    · rename_i hx
      rw [if_neg hx]
      obtain ⟨h1, w, h2, h3⟩ := numsF_at t l (k + 1) i n h
      refine ⟨by omega, w, ?_, h3⟩
      rw [show n - k = (n - (k + 1)) + 1 by omega]
      simpa using h2
theorem numsF_get (t : Int) (l : List Rw) {i : Nat} {w : Rw} (h : (l.filter fun w => hasR w.r t)[i]? = some w) : ∃ n, (numsF t 0 l)[i]? = some n ∧ l[n]? = some w := by
  have hl := (List.getElem?_eq_some_iff.1 h).1
  obtain ⟨n, hn⟩ : ∃ n, (numsF t 0 l)[i]? = some n := ⟨_, List.getElem?_eq_getElem (by rw [numsF_len]; exact hl)⟩
  obtain ⟨_, w', h2, h3⟩ := numsF_at t l 0 i n hn
  rw [h] at h3
  cases h3
  exact ⟨n, hn, by simpa using h2⟩

/-- Where a search ends: what is from there on is all that meets the test. -/
theorem found_parts {α : Type} {q : α → Bool} : ∀ {l : List α} {k : Nat} {p : Nat → Bool}, (∀ i x, l[i]? = some x → p i = q x) → l.Pairwise (fun a b => q a = true → q b = true) → Found p l.length k → l.drop k = l.filter q ∧ l.take k = l.filter fun x => !q x := by
  intro l k p hp hm hf
  obtain ⟨h1, h2, h3⟩ := hf
  have hpw := List.pairwise_iff_getElem.1 hm
  have hd : ∀ x ∈ l.drop k, q x = true := by
    intro x hx
    obtain ⟨j, hj, rfl⟩ := List.getElem_of_mem hx
    rw [List.length_drop] at hj
    rw [List.getElem_drop]
    have hk : k < l.length := by omega
    have h4 := h2 hk
    rw [hp k _ (List.getElem?_eq_getElem hk)] at h4
    by_cases hj0 : j = 0
    · subst hj0; exact h4
    · exact hpw k (k + j) hk (by omega) (by omega) h4
  have ht : ∀ x ∈ l.take k, q x = false := by
    intro x hx
    obtain ⟨j, hj, rfl⟩ := List.getElem_of_mem hx
    rw [List.length_take] at hj
    rw [List.getElem_take]
    have h4 := h3 (by omega)
    rw [hp (k - 1) _ (List.getElem?_eq_getElem (by omega))] at h4
    by_cases hjk : j = k - 1
    · subst hjk; exact h4
    · by_cases hq : q l[j] = true
      · have := hpw j (k - 1) (by omega) (by omega) (by omega) hq
        rw [h4] at this
        cases this
      · simpa using hq
  have e := (List.take_append_drop k l).symm
  constructor
  · conv => rhs; rw [e]
    rw [List.filter_append, List.filter_eq_nil_iff.2 (fun x hx => by simp [ht x hx]), List.filter_eq_self.2 hd, List.nil_append]
  · conv => rhs; rw [e]
    rw [List.filter_append, List.filter_eq_self.2 (fun x hx => by simp [ht x hx]), List.filter_eq_nil_iff.2 (fun x hx => by simp [hd x hx]), List.append_nil]

/-- What an index keeps. -/
structure GoodX (st : XSt) : Prop where
  up : st.rows.Pairwise fun a b => lessP a.pl b.pl = true
  top : ∀ w ∈ st.rows, lessP st.last w.pl = false
  tags : ∀ w ∈ st.rows, w.r.tags.Pairwise (· < ·) ∧ ∀ t ∈ w.r.tags, 1 ≤ t
  one : st.rows.Pairwise fun a b => a.r.id ≠ b.r.id
  ge : ∀ w ∈ st.rows, 1 ≤ w.pl.1 ∧ 0 ≤ w.pl.2
  small : ∀ w ∈ st.rows, w.r.tags.length ≤ 8 ∧ w.r.data.size ≤ 1024
theorem good0 : GoodX xst0 := ⟨.nil, (fun _ h => by cases h), (fun _ h => by cases h), .nil, (fun _ h => by cases h), (fun _ h => by cases h)⟩

def mayI (n : Int) : Bool := decide (0 ≤ n) && decide (n ≤ 1099511627776)
def tagsRight : List Int → Bool
  | [] => true
  | t :: l => decide (1 ≤ t) && decide (t ≤ 1073741824) && (match l with | [] => true | u :: _ => decide (t < u)) && tagsRight l
def rightR (r : Rc) : Bool := mayI r.id.1 && mayI r.id.2 && decide (r.tags.length ≤ 8) && decide (r.data.size ≤ 1024) && tagsRight r.tags
def keepsX (st : XSt) (i : It) : Bool := i.kind == 1 && rightR i.r && decide (1 ≤ i.seq.1) && decide (0 ≤ i.seq.2) && lessP st.last i.seq
def trimsX (i : It) : Bool := i.kind == 2 && decide (0 ≤ i.tag)
def addX (st : XSt) (i : It) : XSt := { st with last := i.seq, rows := if st.rows.any (fun w => w.r.id == i.r.id) = true then st.rows else st.rows ++ [⟨i.seq, i.r⟩] }
def trimX (st : XSt) (i : It) : XSt := { st with tr := match getA i.tag st.tr with
  | none => putA i.tag i.upto st.tr
  | some u => if lessP u i.upto = true then putA i.tag i.upto st.tr else st.tr }
def incX (st : XSt) : XSt := { st with applied := st.applied + 1 }
def applyX (st : XSt) (i : It) : XSt × Int :=
  if keepsX st i = true then (incX (addX st i), 0) else if trimsX i = true then (incX (trimX st i), 0) else (st, 1)

theorem tagsRight_good : ∀ {l : List Int}, tagsRight l = true → l.Pairwise (· < ·) ∧ ∀ t ∈ l, 1 ≤ t
  | [], _ => ⟨.nil, fun _ h => by cases h⟩
  | [t], h => by
    simp [tagsRight] at h
    exact ⟨by simp, fun x hx => by simp at hx; omega⟩
  | t :: u :: l, h => by
    have h0 := h
    unfold tagsRight at h
    simp only [Bool.and_eq_true, decide_eq_true_eq] at h
    obtain ⟨h1, h2⟩ := tagsRight_good h.2
    refine ⟨List.pairwise_cons.2 ⟨fun x hx => ?_, h1⟩, fun x hx => ?_⟩
    · rcases List.mem_cons.1 hx with rfl | hx
      · exact h.1.2
      · exact Int.lt_trans h.1.2 ((List.pairwise_cons.1 h1).1 x hx)
    · rcases List.mem_cons.1 hx with rfl | hx
      · exact h.1.1.1
      · exact h2 x hx
theorem good_add {st : XSt} {i : It} (h : GoodX st) (hk : keepsX st i = true) : GoodX (incX (addX st i)) := by
  unfold keepsX rightR at hk
  simp only [Bool.and_eq_true, decide_eq_true_eq] at hk
  obtain ⟨⟨⟨⟨_, hr⟩, h1⟩, h2⟩, h3⟩ := hk
  have ht := tagsRight_good hr.2
  have htop : ∀ w ∈ st.rows, lessP w.pl i.seq = true := fun w hw => less_le (h.top w hw) h3
  unfold incX addX
  by_cases hd : st.rows.any (fun w => w.r.id == i.r.id) = true
  · simp only [if_pos hd]
    exact ⟨h.up, fun w hw => less_asymm (htop w hw), h.tags, h.one, h.ge, h.small⟩
  · simp only [if_neg hd]
    simp only [List.any_eq_true, not_exists, not_and] at hd
    refine ⟨?_, ?_, ?_, ?_, ?_, ?_⟩
    · exact List.pairwise_append.2 ⟨h.up, by simp, fun a ha b hb => by simp at hb; subst hb; exact htop a ha⟩
    · intro w hw
      rcases List.mem_append.1 hw with hw | hw
      · exact less_asymm (htop w hw)
      · simp at hw; subst hw; exact less_irr _
    · intro w hw
      rcases List.mem_append.1 hw with hw | hw
      · exact h.tags w hw
      · simp at hw; subst hw; exact ht
    · exact List.pairwise_append.2 ⟨h.one, by simp, fun a ha b hb => by simp at hb; subst hb; intro e; exact hd a ha (by simp [e])⟩
    · intro w hw
      rcases List.mem_append.1 hw with hw | hw
      · exact h.ge w hw
      · simp at hw; subst hw; exact ⟨h1, h2⟩
    · intro w hw
      rcases List.mem_append.1 hw with hw | hw
      · exact h.small w hw
      · simp at hw; subst hw; exact ⟨hr.1.1.2, hr.1.2⟩
theorem good_apply {st : XSt} (h : GoodX st) (i : It) : GoodX (applyX st i).1 := by
  unfold applyX
  split
  · rename_i hk
    exact good_add h hk
  · split
    · exact ⟨h.up, h.top, h.tags, h.one, h.ge, h.small⟩
    · exact h
theorem good_tag {st : XSt} (h : GoodX st) (t : Int) : (tagX st t).Pairwise fun a b => lessP a.pl b.pl = true := h.up.filter _
theorem good_count {st : XSt} (h : GoodX st) (t : Int) : (countX st t).Pairwise fun a b => lessP a.pl b.pl = true := (good_tag h t).filter _
theorem behind_mono {st : XSt} {t : Int} {a b : Pl} (hab : lessP a b = true) (h : behindX st t a = true) : behindX st t b = true := by
  unfold behindX at *
  split
  · rfl
  · rename_i u hu
    rw [hu] at h
    exact less_trans h hab
theorem both_mono {st : XSt} {t : Int} {a b : Pl} (hab : lessP a b = true) (h : bothX st t a = true) : bothX st t b = true := by
  unfold bothX at *
  simp only [Bool.and_eq_true] at *
  exact ⟨behind_mono hab h.1, behind_mono hab h.2⟩
/-- counting's search. -/
theorem count_found {st : XSt} (h : GoodX st) {t : Int} {p : Nat → Bool} {k : Nat} (hp : ∀ i w, (tagX st t)[i]? = some w → p i = bothX st t w.pl) (hf : Found p (tagX st t).length k) : (tagX st t).drop k = countX st t :=
  (found_parts hp ((good_tag h t).imp fun hab h => both_mono hab h) hf).1
/-- first's search. -/
theorem first_found {l : List Rw} (h : l.Pairwise fun a b => lessP a.pl b.pl = true) {a : Pl} {p : Nat → Bool} {k : Nat} (hp : ∀ i w, l[i]? = some w → p i = !lessP w.pl a) (hf : Found p l.length k) :
    l.drop k = (l.filter fun w => !lessP w.pl a) ∧ l.take k = l.filter fun w => lessP w.pl a := by
  have := found_parts (q := fun w => !lessP w.pl a) hp (h.imp fun {x y} hxy h => by
    simp only [Bool.not_eq_true'] at *
    rw [← Bool.not_eq_true] at *
    intro hy
    exact h (less_trans hxy hy)) hf
  simpa using this
end Go.Proofs.Ytpdibjaeopcimaa
