/- Maps of one's own: a block that holds an association list; what a look-up and a store do to it. And more of that kind. -/
import Derived.Test.YthknfikjanoflaaBase
import Derived.MapKept
import Derived.Maps.OwnOps
import Derived.ArgAppend
import Derived.Deep.MidRow
import Derived.Deep.AppendLies
import Derived.Test.YthknfikjanoflaaProg
import Derived.Test.YthknfikjanoflaaChecked
import Derived.OwnWalk
import Derived.Test.YthknfikjanoflaaOpen
import Derived.Deep.Upon
import Derived.StillTail
set_option linter.unusedVariables false
set_option linter.unusedSimpArgs false
namespace Go.Proofs.Ythknfikjanoflaa
/-! Maps of one's own: a block that holds an association list; what a look-up and a store do to it. -/
section

open Go.RowKit
open Go.MapKept (heap_set run_findKey run_keyThatStays run_checkKey run_setObj_map)

section
variable {P : Program} {α β : Type}

/-- Block b is a map of these entries. -/
def MapB (w : World) (b : Nat) (key : α → Value) (out : β → Value) (l : List (α × β)) : Prop :=
  ∃ es clock, w.heap[b]? = some (.map es clock) ∧ es.toList.map (fun x => (x.key, x.val)) = l.map fun p => (key p.1, out p.2)
theorem MapB.lt {w : World} {b : Nat} {key : α → Value} {out : β → Value} {l : List (α × β)} (h : MapB w b key out l) : b < w.heap.size := by
  obtain ⟨es, c, h1, _⟩ := h
  exact (Array.getElem?_eq_some_iff.1 h1).1
theorem MapB.ch {S : Nat → Prop} {w w1 : World} {b : Nat} {key : α → Value} {out : β → Value} {l : List (α × β)} (h : MapB w b key out l) (hc : Ch S w w1) (hn : ¬ S b) : MapB w1 b key out l := by
  have hlt := h.lt
  obtain ⟨es, c, h1, h2⟩ := h
  exact ⟨es, c, (hc.block b hlt hn).trans h1, h2⟩
theorem MapB.below {w w1 : World} {b : Nat} {key : α → Value} {out : β → Value} {l : List (α × β)} (h : MapB w b key out l) (hb : Below w.heap.size w w1) : MapB w1 b key out l := h.ch (Ch.of_below (fun _ => False) hb) id
theorem MapB.new (w : World) (key : α → Value) (out : β → Value) : MapB (w.alloc (.map #[] 0)) w.heap.size key out [] := ⟨#[], 0, heap_alloc_new w _, rfl⟩

variable [DecidableEq α]
/-- The first entry of a key: its number, its value. -/
def findA (a : α) : List (α × β) → Nat → Option (Nat × β)
  | [], _ => none
  | p :: l, i => if p.1 = a then some (i, p.2) else findA a l (i + 1)
def getA (a : α) : List (α × β) → Option β
  | [] => none
  | p :: l => if p.1 = a then some p.2 else getA a l
def putA (a : α) (c : β) : List (α × β) → List (α × β)
  | [] => [(a, c)]
  | p :: l => if p.1 = a then (a, c) :: l else p :: putA a c l
theorem findA_get (a : α) : ∀ (l : List (α × β)) (i : Nat), (findA a l i).map (·.2) = getA a l
  | [], _ => rfl
  | p :: l, i => by
    unfold findA getA
    split
    · rfl
    · exact findA_get a l (i + 1)
theorem findA_at (a : α) : ∀ (l : List (α × β)) (i j : Nat) (c : β), findA a l i = some (j, c) → ∃ k, j = i + k ∧ k < l.length ∧ (l[k]?).map (·.1) = some a ∧ ∀ c', putA a c' l = l.set k (a, c')
  | [], _, _, _, h => by simp [findA] at h
  | p :: l, i, j, c, h => by
    unfold findA at h
    split at h
    · rename_i hp
      cases h
      exact ⟨0, rfl, by simp, by simp [hp], fun c' => by simp [putA, hp]⟩
    · rename_i hp
      obtain ⟨k, h1, h2, h3, h4⟩ := findA_at a l (i + 1) j c h
      exact ⟨k + 1, by omega, by simpa using h2, by simpa using h3, fun c' => by rw [putA, if_neg hp, h4]; rfl⟩
theorem findA_none (a : α) : ∀ (l : List (α × β)) (i : Nat), findA a l i = none → ∀ c, putA a c l = l ++ [(a, c)]
  | [], _, _, c => rfl
  | p :: l, i, h, c => by
    unfold findA at h
    split at h
    · cases h
    · rename_i hp
      rw [putA, if_neg hp, findA_none a l (i + 1) h c]
      rfl
theorem getA_put (a : α) (c : β) : ∀ (l : List (α × β)) (a' : α), getA a' (putA a c l) = if a' = a then some c else getA a' l
  | [], a' => by
    by_cases h : a = a'
    · simp [putA, getA, h]
    · simp [putA, getA, h, Ne.symm h]
  | p :: l, a' => by
    unfold putA
    by_cases hp : p.1 = a
    · rw [if_pos hp]
      by_cases h : a = a'
      · simp [getA, h]
      · rw [if_neg (Ne.symm h)]
        simp only [getA]
        rw [if_neg h, if_neg (by rw [hp]; exact h)]
    · rw [if_neg hp]
      simp only [getA]
      by_cases h2 : p.1 = a'
      · rw [if_pos h2, if_neg (by rintro rfl; exact hp h2), if_pos h2]
      · rw [if_neg h2, if_neg h2]
        exact getA_put a c l a'
theorem putA_len (a : α) (c : β) : ∀ (l : List (α × β)), (putA a c l).length ≤ l.length + 1
  | [] => by simp [putA]
  | p :: l => by
    unfold putA
    split
    · simp
    · have := putA_len a c l
      simp only [List.length_cons]
      omega

/-- What the laws ask of a key's type. -/
structure KeyT (P : Program) (kt : TypeId) (key : α → Value) : Prop where
  check : ∀ (e : Bool) (a : α) (w : World), (Instr.checkKey e 10000 kt (key a)).run P w = .ok () w
  find : ∀ (a : α) (es : List MapEntry) (ks : List α) (w : World), es.map (·.key) = ks.map key → (Instr.findKey kt (key a) es).run P w = .ok ((findA a (ks.zip (es.map (·.val))) 0)) w
  stays : ∀ (a : α) (w : World), (Instr.keyThatStays (key a) (key a)).run P w = .ok (key a) w

theorem findA_zip (a : α) (key : α → Value) (out : β → Value) : ∀ (l : List (α × β)) (es : List MapEntry) (i : Nat), es.map (fun x => (x.key, x.val)) = l.map (fun p => (key p.1, out p.2)) → findA a ((l.map (·.1)).zip (es.map (·.val))) i = (findA a l i).map fun p => (p.1, out p.2)
  | [], [], i, _ => rfl
  | [], _ :: _, _, h => by simp at h
  | _ :: _, [], _, h => by simp at h
  | p :: l, x :: es, i, h => by
    simp only [List.map_cons, List.cons.injEq, Prod.mk.injEq] at h
    obtain ⟨⟨h1, h2⟩, h3⟩ := h
    simp only [List.map_cons, List.zip_cons_cons, findA]
    split
    · simp [h2]
    · exact findA_zip a key out l es (i + 1) h3

theorem MapB.findKey {kt : TypeId} {key : α → Value} (K : KeyT P kt key) {out : β → Value} {l : List (α × β)} {es : Array MapEntry} (h : es.toList.map (fun x => (x.key, x.val)) = l.map fun p => (key p.1, out p.2)) (a : α) (w : World) :
    (Instr.findKey kt (key a) es.toList).run P w = .ok ((findA a l 0).map fun p => (p.1, out p.2)) w := by
  have h1 : es.toList.map (·.key) = (l.map (·.1)).map key := by
    have := congrArg (List.map (·.1)) h
    simpa [List.map_map, Function.comp_def] using this
  rw [K.find a es.toList (l.map (·.1)) w h1, findA_zip a key out l es.toList 0 h]

/-- The look-up's value. -/
def lookV (out : β → Value) (z : Value) (o : Option β) (ok : Bool) : Value := if ok then .tuple #[(o.map out).getD z, .bool o.isSome] else (o.map out).getD z
theorem MapB.look {w : World} {b : Nat} {key : α → Value} {out : β → Value} {l : List (α × β)} (h : MapB w b key out l) {t kt et : TypeId} (K : KeyT P kt key) (ht : P.underlying t = some (.map kt et)) {z : Value} (hz : (zeroValue et).run P w = .ok z w) (a : α) (ok : Bool) :
    (Instr.lookup t (.map (some b)) (key a) ok).run P w = .ok (lookV out z (getA a l) ok) w := by
  obtain ⟨es, c, h1, h2⟩ := h
  have hf := MapB.findKey K h2 a w
  rw [← findA_get a l 0]
  unfold lookV
  cases hq : findA a l 0 with
  | none =>
    rw [hq] at hf
    simp [Instr.lookup, run_underlying ht, MapKept.run_getObj_map h1, K.check, hf, hz, Result.andThen]
  | some p =>
    rw [hq] at hf
    simp [Instr.lookup, run_underlying ht, MapKept.run_getObj_map h1, K.check, hf, Result.andThen]

/-- A store. -/
theorem MapB.store {w : World} {b : Nat} {key : α → Value} {out : β → Value} {l : List (α × β)} (h : MapB w b key out l) {t kt et : TypeId} (K : KeyT P kt key) (ht : P.underlying t = some (.map kt et)) (a : α) (c : β) :
    ∃ w', (Instr.mapUpdate t (.map (some b)) (key a) (out c)).run P w = .ok () w' ∧ MapB w' b key out (putA a c l) ∧ Ch (· = b) w w' ∧ w'.heap.size = w.heap.size := by
  obtain ⟨es, ck, h1, h2⟩ := h
  have hf := MapB.findKey K h2 a w
  have hset : ∀ o, Ch (· = b) w { w with heap := w.heap.setIfInBounds b o } := fun o => ⟨rfl, rfl, rfl, by simp, fun k hk hn => (heap_set h1).2 k hn⟩
  cases hq : findA a l 0 with
  | none =>
    rw [hq] at hf
    refine ⟨_, by simp [Instr.mapUpdate, run_underlying ht, MapKept.run_getObj_map h1, K.check, hf, run_setObj_map _ h1, Result.andThen]; rfl, ⟨_, _, (heap_set h1).1, ?_⟩, hset _, by simp⟩
    rw [findA_none a l 0 hq c]
    simp [h2]
  | some p =>
    obtain ⟨j, c0⟩ := p
    rw [hq] at hf
    obtain ⟨k, hj, hk, hka, hput⟩ := findA_at a l 0 j c0 hq
    obtain rfl : j = k := by omega
    have hl : es.toList.length = l.length := by simpa using congrArg List.length h2
    obtain ⟨x, hx⟩ : ∃ x, es[j]? = some x := ⟨_, Array.getElem?_eq_getElem (by rw [Array.length_toList] at hl; omega)⟩
    have hxk : x.key = key a := by
      have h3 := congrArg (fun r => r[j]?) h2
      simp only [List.getElem?_map, Array.getElem?_toList, hx, Option.map_some] at h3
      obtain ⟨q, hq2⟩ : ∃ q, l[j]? = some q := ⟨_, List.getElem?_eq_getElem hk⟩
      rw [hq2] at h3 hka
      simp at h3 hka
      rw [h3.1, hka]
    refine ⟨_, by simp [Instr.mapUpdate, run_underlying ht, MapKept.run_getObj_map h1, K.check, hf, hx, hxk, K.stays, run_setObj_map _ h1, Result.andThen]; rfl, ⟨_, _, (heap_set h1).1, ?_⟩, hset _, by simp⟩
    rw [hput c]
    apply List.ext_getElem?
    intro i
    have h4 := congrArg (fun r => r[i]?) h2
    simp only [List.getElem?_map, Array.getElem?_toList] at h4
    simp only [List.getElem?_map, Array.getElem?_toList, Array.getElem?_modify, List.getElem?_set]
    by_cases hi : j = i
    · subst hi
      simp [hx, hk]
    · simp [hi, h4]

/-- The store at a plain region's list. -/
theorem wpList_store_map {w : World} {ops : Array Oper} {rest : List Oper} {o : Oper} {a : Act} {Q : Exit → Act → World → Prop} (hg : o.guard = none) (m x v : Operand) (t : TypeId) (hop : o.op = Op.mapUpdate t m x v)
    {b : Nat} {key : α → Value} {out : β → Value} {l : List (α × β)} {kt et : TypeId} (K : KeyT P kt key) (ht : P.underlying t = some (.map kt et)) (hm : a.eval m = .map (some b)) (h : MapB w b key out l) (k : α) (c : β) (hx : a.eval x = key k) (hv : a.eval v = out c)
    (hK : ∀ w', MapB w' b key out (putA k c l) → Ch (· = b) w w' → wpList P ops Q rest (a.put o.dst undef) w') : wpList P ops Q (o :: rest) a w := by
  refine wpList_plain hg fun K' hK' => ?_
  obtain ⟨w', hrun, r1, r2, _⟩ := h.store K ht k c
  unfold Oper.wp
  simp [execOp, hop, hm, hx, hv, hrun, Result.andThen]
  exact hK' _ _ (hK w' r1 r2)
/-- The look-up at a plain region's list. -/
theorem wpList_look_map {w : World} {ops : Array Oper} {rest : List Oper} {o : Oper} {a : Act} {Q : Exit → Act → World → Prop} (hg : o.guard = none) (m x : Operand) (t : TypeId) (ok : Bool) (hop : o.op = Op.lookup t m x ok)
    {b : Nat} {key : α → Value} {out : β → Value} {l : List (α × β)} {kt et : TypeId} (K : KeyT P kt key) (ht : P.underlying t = some (.map kt et)) {z : Value} (hz : (zeroValue et).run P w = .ok z w) (hm : a.eval m = .map (some b)) (h : MapB w b key out l) (k : α) (hx : a.eval x = key k)
    {v : Value} (hv : lookV out z (getA k l) ok = v) (hK : wpList P ops Q rest (a.put o.dst v) w) : wpList P ops Q (o :: rest) a w := by
  refine wpList_plain hg fun K' hK' => ?_
  have hrun := h.look K ht hz k ok
  rw [hv] at hrun
  unfold Oper.wp
  simp [execOp, hop, hm, hx, hrun, Result.andThen]
  exact hK' _ _ hK
end

/-- Numbers are keys. -/
theorem keyInt {P : Program} {kt : TypeId} (hk : P.underlying kt = some (.int .i64)) : KeyT P kt (Value.int .i64) where
  check e a w := run_checkKey (d := .int .i64) hk (show MapKept.IsKey (.int .i64) (.int .i64 a) from rfl) e 9999
  stays a w := run_keyThatStays (d := .int .i64) (show MapKept.IsKey (.int .i64) (.int .i64 a) from rfl)
  find := by
    intro a es ks w h
    have : ∀ (es : List MapEntry) (ks : List Int) (i : Nat), es.map (·.key) = ks.map (Value.int .i64) → Instr.findNow (.int .i64) (.int .i64 a) es i = some (findA a (ks.zip (es.map (·.val))) i) := by
      intro es
      induction es with
      | nil => intro ks i h; cases ks <;> simp_all [Instr.findNow, findA]
      | cons x es ih =>
        intro ks i h
        match ks, h with
        | k :: ks, h =>
          simp only [List.map_cons, List.cons.injEq] at h
          simp only [List.map_cons, List.zip_cons_cons, findA, Instr.findNow, h.1, Instr.sameNow, if_true]
          by_cases hka : k = a
          · simp [hka]
          · rw [if_neg hka]
            have : (a == k) = false := by simpa using (Ne.symm hka)
            rw [this]
            exact ih ks (i + 1) h.2
    exact run_findKey hk (this es ks 0 h)
end

/-! Rows of elements of one's own that begin anywhere in their block: append behind, cut ahead. -/
section

open Go.RowKit

section
variable {P : Program} {α : Type}

/-- A row of one's own: each element written out by 'out' (sz cells). -/
def ORow (sz : Nat) (out : α → List Value) (w : World) (base : Nat) (v : Value) (xs : List α) : Prop :=
  (v = .slice none 0 0 ∧ xs = []) ∨ ∃ g off cap, v = .slice (some ⟨g, off, none⟩) xs.length cap ∧ base ≤ g ∧ g < w.heap.size ∧ xs.length ≤ cap ∧ cap ≤ maxLen ∧ w.there g off (cap * sz) ∧ w.rangeAt g off (xs.flatMap out)

variable {sz : Nat} {out : α → List Value}
theorem ORow.nil (w : World) (base : Nat) : ORow sz out w base (.slice none 0 0) [] := .inl ⟨rfl, rfl⟩
theorem ORow.own {w : World} {base : Nat} {v : Value} {xs : List α} (h : ORow sz out w base v xs) {g : Nat} (e : v.ownBlock = some g) : base ≤ g ∧ g < w.heap.size := by
  rcases h with ⟨h2, _⟩ | ⟨g3, off, cap, hv, h1, h2, _⟩
  · rw [h2] at e; simp [Value.ownBlock] at e
  · rw [hv] at e
    obtain rfl : g3 = g := by simpa [Value.ownBlock] using e
    exact ⟨h1, h2⟩
theorem ORow.slice {w : World} {base : Nat} {v : Value} {xs : List α} (h : ORow sz out w base v xs) : ∃ a cap, v = .slice a xs.length cap ∧ xs.length ≤ cap ∧ cap ≤ maxLen := by
  rcases h with ⟨h2, h3⟩ | ⟨g3, off, cap, hv, h1, h2, h3, h4, _⟩
  · exact ⟨none, 0, by rw [h2, h3]; rfl, by rw [h3]; simp, by simp [maxLen]⟩
  · exact ⟨_, cap, hv, h3, h4⟩
theorem there_of_block {w w1 : World} {g o n : Nat} (h : w.there g o n) (hb : w1.heap[g]? = w.heap[g]?) : w1.there g o n := fun j hj => by
  rw [World.cell?_of_block (w := w) (w' := w1) (a := ⟨g, o + j, none⟩) hb, World.frozen?_of_block (w := w) (w' := w1) (a := ⟨g, o + j, none⟩) hb]
  exact h j hj
theorem range_of_block {w w1 : World} {g o : Nat} {cs : List Value} (h : w.rangeAt g o cs) (hb : w1.heap[g]? = w.heap[g]?) : w1.rangeAt g o cs := fun j v hv => by
  rw [World.cell?_of_block (w := w) (w' := w1) (a := ⟨g, o + j, none⟩) hb]
  exact h j v hv
theorem ORow.ch {S : Nat → Prop} {w w1 : World} {base : Nat} {v : Value} {xs : List α} (h : ORow sz out w base v xs) (hc : Ch S w w1) (hn : ∀ g, v.ownBlock = some g → ¬ S g) : ORow sz out w1 base v xs := by
  rcases h with h | ⟨g, off, cap, hv, h1, h2, h3, h4, h5, h6⟩
  · exact .inl h
  · have hb := hc.block g h2 (hn g (by rw [hv]; rfl))
    exact .inr ⟨g, off, cap, hv, h1, Nat.lt_of_lt_of_le h2 hc.size, h3, h4, there_of_block h5 hb, range_of_block h6 hb⟩
theorem ORow.below {w w1 : World} {base : Nat} {v : Value} {xs : List α} (h : ORow sz out w base v xs) (hb : Below w.heap.size w w1) : ORow sz out w1 base v xs := h.ch (Ch.of_below (fun _ => False) hb) (fun _ _ => id)

theorem flat_len (hout : ∀ x : α, (out x).length = sz) : ∀ xs : List α, (xs.flatMap out).length = xs.length * sz
  | [] => by simp
  | x :: xs => by
    simp only [List.flatMap_cons, List.length_append, hout, List.length_cons, flat_len hout xs]
    rw [Nat.add_mul, Nat.one_mul, Nat.add_comm]
theorem flat_at (hout : ∀ x : α, (out x).length = sz) : ∀ (xs : List α) (i : Nat) (x : α), xs[i]? = some x → ∀ j u, (out x)[j]? = some u → (xs.flatMap out)[i * sz + j]? = some u
  | [], i, x, h, _, _, _ => by simp at h
  | y :: xs, 0, x, h, j, u, hu => by
    simp at h
    subst h
    have hj := (List.getElem?_eq_some_iff.1 hu).1
    simp only [Nat.zero_mul, Nat.zero_add, List.flatMap_cons]
    rw [List.getElem?_append_left hj]
    exact hu
  | y :: xs, i + 1, x, h, j, u, hu => by
    have := flat_at hout xs i x (by simpa using h) j u hu
    simp only [List.flatMap_cons]
    rw [List.getElem?_append_right (by rw [hout, Nat.add_mul]; omega), hout, show (i + 1) * sz + j - sz = i * sz + j by rw [Nat.add_mul]; omega]
    exact this
/-- An element's cells. -/
theorem ORow.at (hout : ∀ x : α, (out x).length = sz) {w : World} {base : Nat} {v : Value} {xs : List α} (h : ORow sz out w base v xs) {i : Nat} {x : α} (hi : xs[i]? = some x) :
    ∃ g off cap, v = .slice (some ⟨g, off, none⟩) xs.length cap ∧ ∀ j u, (out x)[j]? = some u → w.cell? ⟨g, off + (i * sz + j), none⟩ = some u := by
  rcases h with ⟨h2, h3⟩ | ⟨g, off, cap, hv, h1, h2, h3, h4, h5, h6⟩
  · rw [h3] at hi; simp at hi
  · exact ⟨g, off, cap, hv, fun j u hu => h6 _ u (flat_at hout xs i x hi j u hu)⟩
/-- The first element is cut off: 'v[1:]'. -/
theorem ORow.cut (hout : ∀ x : α, (out x).length = sz) {w : World} {base : Nat} {v : Value} {x : α} {xs : List α} (h : ORow sz out w base v (x :: xs)) :
    ∃ g off cap, v = .slice (some ⟨g, off, none⟩) (xs.length + 1) (cap + 1) ∧ ORow sz out w base (.slice (some (if cap = 0 then ⟨g, off, none⟩ else ⟨g, off + sz, none⟩)) xs.length cap) xs := by
  rcases h with ⟨h2, h3⟩ | ⟨g, off, cap, hv, h1, h2, h3, h4, h5, h6⟩
  · cases h3
  · simp only [List.length_cons] at hv h3
    obtain ⟨c, rfl⟩ : ∃ c, cap = c + 1 := ⟨cap - 1, by omega⟩
    refine ⟨g, off, c, hv, .inr ?_⟩
    by_cases hc : c = 0
    · rw [if_pos hc]
      have hx : xs = [] := List.eq_nil_of_length_eq_zero (by omega)
      subst hx
      exact ⟨g, off, c, rfl, h1, h2, Nat.zero_le _, by omega, fun j hj => by rw [hc, Nat.zero_mul] at hj; omega, fun j u hu => by simp at hu⟩
    · rw [if_neg hc]
      refine ⟨g, off + sz, c, rfl, h1, h2, by omega, by omega, fun j hj => ?_, fun j u hu => ?_⟩
      · have := h5 (sz + j) (by rw [Nat.add_mul]; omega)
        rwa [← Nat.add_assoc] at this
      · have := h6 (sz + j) u (by
          simp only [List.flatMap_cons]
          rw [List.getElem?_append_right (by rw [hout]; omega), hout, show sz + j - sz = j by omega]
          exact hu)
        rwa [← Nat.add_assoc] at this

theorem setCells_block (b : Nat) : ∀ (vs : List Value) (o : Nat) (w : World), (w.setCells b o vs).heap.size = w.heap.size ∧ (w.setCells b o vs).os = w.os ∧ (w.setCells b o vs).tape = w.tape ∧ (w.setCells b o vs).output = w.output ∧ ∀ k, k ≠ b → (w.setCells b o vs).heap[k]? = w.heap[k]?
  | [], _, _ => ⟨rfl, rfl, rfl, rfl, fun _ _ => rfl⟩
  | v :: vs, o, w => by
    obtain ⟨h1, h2, h3, h4, h5⟩ := setCells_block b vs (o + 1) (w.setCell ⟨b, o, none⟩ v)
    refine ⟨h1.trans (by simp [World.setCell]), h2, h3, h4, fun k hk => (h5 k hk).trans (Below.heap_setCell _ _ _ _ (by simpa using hk))⟩

theorem ownsRow_there {w : World} {base : Nat} {e : TypeId} {g n cap : Nat} {xs : List Value} (h : w.ownsRow base e sz (.slice (some ⟨g, 0, none⟩) n cap) n xs) : base ≤ g ∧ g < w.heap.size ∧ n ≤ cap ∧ cap ≤ maxLen ∧ w.there g 0 (cap * sz) ∧ w.rangeAt g 0 xs := by
  have hc := h.cells (g := g) rfl
  rcases h.2 with ⟨h2, _⟩ | ⟨g2, cap2, cur, hv, hb, hh, hn, hm, hs, ht⟩
  · cases h2
  · cases hv
    refine ⟨hb, lt_of_block hh, hn, hm, fun j hj => ?_, fun j u hu => by have := hc j u hu; rwa [Addr.add_mid] at this⟩
    have hB : Blk w g cur e := hh
    rw [hB.cell, hB.free]
    refine ⟨?_, rfl⟩
    rw [Array.getElem?_eq_getElem (by omega)]
    rfl

/-- append of one element that lies at p. -/
theorem ORow.append (hout : ∀ x : α, (out x).length = sz) (h1c : ∀ x : α, ∀ u ∈ out x, u.oneCell' = true) (hsz : 0 < sz) {w : World} {base : Nat} {v : Value} {xs : List α} (h : ORow sz out w base v xs) {t ty e : TypeId} {i : TypeInfo} {z : Value} {bytes : Nat}
    (ht : P.underlying t = some (.slice e)) (hi : P.info? e = some i) (hz : i.zero = some z) (hs : i.size = sz) (hby : i.bytes = bytes) (hzs : z.cells.size = sz) {p : Nat} {x : α} (hp : ∀ j u, (out x)[j]? = some u → w.cell? ⟨p, j, none⟩ = some u)
    (hbase : base ≤ w.heap.size) (h63 : xs.length + 1 ≤ maxLen) (hbytes : (xs.length + 1) * bytes ≤ 140737488355328) :
    ∃ g off cap w', (Builtin.append_ #[t, t] ty #[v, .slice (some ⟨p, 0, none⟩) 1 1]).run P w = .ok (.slice (some ⟨g, off, none⟩) (xs.length + 1) cap) w' ∧ ORow sz out w' base (.slice (some ⟨g, off, none⟩) (xs.length + 1) cap) (xs ++ [x]) ∧ w.grownBy w' v.ownBlock ∧ (v.ownBlock = some g ∨ w.heap.size ≤ g) := by
  have hnews : ∀ j u, (out x)[j]? = some u → w.cell? ((⟨p, 0, none⟩ : Addr).add j) = some u := fun j u hu => by rw [Addr.add_mid, Nat.zero_add]; exact hp j u hu
  have hl1 : (out x).length = 1 * sz := by rw [hout, Nat.one_mul]
  have hflat : (xs ++ [x]).flatMap out = xs.flatMap out ++ out x := by simp
  rcases h with ⟨rfl, rfl⟩ | ⟨g, off, cap, rfl, hg, hlt, hcap, hmax, hth, hra⟩
  · obtain ⟨g, cap, w', hr, h2, h3, h4, h5⟩ := run_append_lies (P := P) w t ty base e i z sz bytes ht hi hz hs hby hzs hsz (.slice none 0 0) 0 [] (World.ownsRow_nil _ _ _ _) ⟨p, 0, none⟩ 1 1 (out x) hl1 hnews (h1c x) (by omega) (by simpa using h63) (by simpa using hbytes) hbase w.heap.size rfl
    obtain ⟨a1, a2, a3, a4, a5, a6⟩ := ownsRow_there h2
    exact ⟨g, 0, cap, w', hr, .inr ⟨g, 0, cap, rfl, a1, a2, a3, a4, a5, by simpa using a6⟩, h3, h4.imp id (fun e => by omega)⟩
  · by_cases hroom : xs.length + 1 ≤ cap
    · have hlt2 : ∀ j, j < (out x).length → xs.length * sz + j < cap * sz := fun j hj => by
        rw [hout] at hj
        have := Nat.mul_le_mul_right sz hroom
        rw [Nat.add_mul] at this
        omega
      have hr := run_append_room_cells (P := P) w t ty e i ht hi g off xs.length cap ⟨p, 0, none⟩ 1 1 (out x) (by rw [hs]; exact hl1) hnews (h1c x) hroom
        (by intro j hj; rw [hs, Nat.add_assoc]; exact (hth _ (hlt2 j hj)).1) (by intro j hj; rw [hs, Nat.add_assoc]; exact (hth _ (hlt2 j hj)).2)
      obtain ⟨b1, b2, b3, b4, b5⟩ := setCells_block g (out x) (off + xs.length * i.size) w
      refine ⟨g, off, cap, _, hr, .inr ⟨g, off, cap, by simp, hg, by rw [b1]; exact hlt, by simpa using hroom, hmax, World.there_setCells hth g _ _, ?_⟩, ⟨b2, b3, b4, by rw [b1]; exact Nat.le_refl _, fun k _ hk => b5 k (fun e => hk (by rw [e]; rfl))⟩, .inl rfl⟩
      intro j u hu
      rw [hflat] at hu
      have hfl := flat_len hout xs
      by_cases hj : j < (xs.flatMap out).length
      · rw [List.getElem?_append_left hj] at hu
        rw [World.cell?_setCells_out]
        · exact hra j u hu
        · intro _ _
          left
          simp only
          rw [hs]
          omega
      · rw [List.getElem?_append_right (by omega)] at hu
        have h7 := World.rangeAt_setCells_same w g (off + xs.length * i.size) (out x) (fun k hk => by rw [hs, Nat.add_assoc]; exact hth _ (hlt2 k hk)) _ u hu
        rw [show off + xs.length * i.size + (j - (xs.flatMap out).length) = off + j by rw [hs]; omega] at h7
        exact h7
    · obtain ⟨v', w', hr, h2, h3⟩ := run_append_arg_grows (P := P) w t ty e i z sz bytes ht hi hz hs hby hzs hsz ⟨g, off, none⟩ xs.length cap (xs.flatMap out) (flat_len hout xs) (fun j u hu => by rw [Addr.add_mid]; exact hra j u hu) ⟨p, 0, none⟩ 1 1 (out x) hl1 hnews (by omega) h63 hbytes
      obtain ⟨g2, cap2, rfl, h5, h6⟩ := h2.form (by omega)
      obtain ⟨a1, a2, a3, a4, a5, a6⟩ := ownsRow_there h2
      exact ⟨g2, 0, cap2, w', hr, .inr ⟨g2, 0, cap2, by simp, by omega, a2, by simpa using a3, a4, a5, by rw [hflat]; exact a6⟩, ⟨h3.os, h3.tape, h3.output, h3.size, fun k hk _ => h3.block k hk (by simp)⟩, .inr h5⟩

/-- .. at the operation, at a plain list, at a step of a region that draws. -/
theorem wp_append_off (hout : ∀ x : α, (out x).length = sz) (h1c : ∀ x : α, ∀ u ∈ out x, u.oneCell' = true) (hsz : 0 < sz) {w : World} {o : Oper} {a : Act} {K : Act → World → Prop} {Q : Exit → Act → World → Prop} (s y : Operand) (t : TypeId)
    (ho : o.op = .call { callee := .builtin .append, args := #[s, y], argTypes := #[t, t] }) {base : Nat} {v : Value} {xs : List α} (hv : ORow sz out w base v xs) {e : TypeId} {i : TypeInfo} {z : Value} {bytes : Nat}
    (ht : P.underlying t = some (.slice e)) (hi : P.info? e = some i) (hz : i.zero = some z) (hs : i.size = sz) (hby : i.bytes = bytes) (hzs : z.cells.size = sz) (he : a.eval s = v) {p : Nat} (hy : a.eval y = .slice (some ⟨p, 0, none⟩) 1 1) {x : α} (hp : ∀ j u, (out x)[j]? = some u → w.cell? ⟨p, j, none⟩ = some u)
    (hbase : base ≤ w.heap.size) (h63 : xs.length + 1 ≤ maxLen) (hbytes : (xs.length + 1) * bytes ≤ 140737488355328)
    (h : ∀ g off cap w', ORow sz out w' base (.slice (some ⟨g, off, none⟩) (xs.length + 1) cap) (xs ++ [x]) → w.grownBy w' v.ownBlock → (v.ownBlock = some g ∨ w.heap.size ≤ g) → K (a.put o.dst (.slice (some ⟨g, off, none⟩) (xs.length + 1) cap)) w') : o.wp P a w K Q := by
  obtain ⟨g, off, cap, w', hr, h2, h3, h4⟩ := hv.append (P := P) hout h1c hsz (ty := o.type) ht hi hz hs hby hzs hp hbase h63 hbytes
  unfold Oper.wp execOp
  simp only [ho, resolve, invoke, builtin, Sem.run_bind, Sem.run_pure, Result.andThen_ok, List.map_toArray, List.map_cons, List.map_nil, he, hy, hr]
  exact h g off cap w' h2 h3 h4
theorem wpList_append_off (hout : ∀ x : α, (out x).length = sz) (h1c : ∀ x : α, ∀ u ∈ out x, u.oneCell' = true) (hsz : 0 < sz) {w : World} {ops : Array Oper} {rest : List Oper} {o : Oper} {a : Act} {Q : Exit → Act → World → Prop} (hgd : o.guard = none) (s y : Operand) (t : TypeId)
    (ho : o.op = .call { callee := .builtin .append, args := #[s, y], argTypes := #[t, t] }) {base : Nat} {v : Value} {xs : List α} (hv : ORow sz out w base v xs) {e : TypeId} {i : TypeInfo} {z : Value} {bytes : Nat}
    (ht : P.underlying t = some (.slice e)) (hi : P.info? e = some i) (hz : i.zero = some z) (hs : i.size = sz) (hby : i.bytes = bytes) (hzs : z.cells.size = sz) (he : a.eval s = v) {p : Nat} (hy : a.eval y = .slice (some ⟨p, 0, none⟩) 1 1) {x : α} (hp : ∀ j u, (out x)[j]? = some u → w.cell? ⟨p, j, none⟩ = some u)
    (hbase : base ≤ w.heap.size) (h63 : xs.length + 1 ≤ maxLen) (hbytes : (xs.length + 1) * bytes ≤ 140737488355328)
    (h : ∀ g off cap w', ORow sz out w' base (.slice (some ⟨g, off, none⟩) (xs.length + 1) cap) (xs ++ [x]) → w.grownBy w' v.ownBlock → (v.ownBlock = some g ∨ w.heap.size ≤ g) → wpList P ops Q rest (a.put o.dst (.slice (some ⟨g, off, none⟩) (xs.length + 1) cap)) w') : wpList P ops Q (o :: rest) a w :=
  wpList_plain hgd fun _ hK => wp_append_off hout h1c hsz s y t ho hv ht hi hz hs hby hzs he hy hp hbase h63 hbytes fun g off cap w' h2 h3 h4 => hK _ _ (h g off cap w' h2 h3 h4)
theorem step_append_off (hout : ∀ x : α, (out x).length = sz) (h1c : ∀ x : α, ∀ u ∈ out x, u.oneCell' = true) (hsz : 0 < sz) {w : World} {ops : Array Oper} {o : Oper} {a : Act} {K : Act → World → Prop} {Q : Exit → Act → World → Prop} {E : Prop} (hgd : o.guard = none) (s y : Operand) (t : TypeId)
    (ho : o.op = .call { callee := .builtin .append, args := #[s, y], argTypes := #[t, t] }) {base : Nat} {v : Value} {xs : List α} (hv : ORow sz out w base v xs) {e : TypeId} {i : TypeInfo} {z : Value} {bytes : Nat}
    (ht : P.underlying t = some (.slice e)) (hi : P.info? e = some i) (hz : i.zero = some z) (hs : i.size = sz) (hby : i.bytes = bytes) (hzs : z.cells.size = sz) (he : a.eval s = v) {p : Nat} (hy : a.eval y = .slice (some ⟨p, 0, none⟩) 1 1) {x : α} (hp : ∀ j u, (out x)[j]? = some u → w.cell? ⟨p, j, none⟩ = some u)
    (hbase : base ≤ w.heap.size) (h63 : xs.length + 1 ≤ maxLen) (hbytes : (xs.length + 1) * bytes ≤ 140737488355328)
    (h : ∀ g off cap w', ORow sz out w' base (.slice (some ⟨g, off, none⟩) (xs.length + 1) cap) (xs ++ [x]) → w.grownBy w' v.ownBlock → (v.ownBlock = some g ∨ w.heap.size ≤ g) → K (a.put o.dst (.slice (some ⟨g, off, none⟩) (xs.length + 1) cap)) w') :
    if Region.wanted o (yielded ops a.tmps) = true then Oper.wp P o a w K Q else E := by
  have hw : Region.wanted o (yielded ops a.tmps) = true := by simp [Region.wanted, hgd]
  rw [if_pos hw]
  exact wp_append_off hout h1c hsz s y t ho hv ht hi hz hs hby hzs he hy hp hbase h63 hbytes h
end
end

/-! Rows of texts of one's own. -/
section

open Go.RowKit

/-- A row of texts of one's own. -/
def SRow (w : World) (base : Nat) (v : Value) (xs : List ByteArray) : Prop := w.ownsRow base 9 1 v xs.length (xs.map Value.string)

theorem SRow.ch {w w1 : World} {base : Nat} {v : Value} {bs : List ByteArray} {S : Nat → Prop} (h : SRow w base v bs) (hc : Ch S w w1) (hv : ∀ g, v.ownBlock = some g → ¬ S g) : SRow w1 base v bs :=
  ⟨h.1, by
    rcases h.2 with h2 | ⟨g, cap, cur, e, hg, hh, r⟩
    · exact .inl h2
    · exact .inr ⟨g, cap, cur, e, hg, (hc.block g (lt_of_block hh) (hv g (by rw [e]; rfl))).trans hh, r⟩⟩
theorem SRow.slice {w : World} {base : Nat} {v : Value} {bs : List ByteArray} (h : SRow w base v bs) : ∃ a cap, v = .slice a bs.length cap ∧ bs.length ≤ cap := by
  rcases h.2 with ⟨hv, h0⟩ | ⟨g, cap, cur, hv, hg, hh, hn, _⟩
  · exact ⟨none, 0, by rw [hv, h0], by omega⟩
  · exact ⟨_, cap, hv, hn⟩
theorem SRow.at {w : World} {base : Nat} {v : Value} {bs : List ByteArray} (h : SRow w base v bs) {i : Nat} {s : ByteArray} (hi : bs[i]? = some s) : ∃ g cap, v = .slice (some ⟨g, 0, none⟩) bs.length cap ∧ w.cell? ⟨g, i, none⟩ = some (.string s) := by
  rcases h.2 with ⟨hv, h0⟩ | ⟨g, cap, cur, hv, hg, hh, hn, hc, hsz, htake⟩
  · have : bs = [] := List.length_eq_zero_iff.1 h0
    subst this
    cases hi
  · subst hv
    have hl := (List.getElem?_eq_some_iff.1 hi).1
    refine ⟨g, cap, rfl, ?_⟩
    rw [h.cellAt i (by omega)]
    simp [hi]
theorem SRow.own {w : World} {base : Nat} {v : Value} {bs : List ByteArray} (h : SRow w base v bs) {g : Nat} (e : v.ownBlock = some g) : base ≤ g ∧ g < w.heap.size := by
  rcases h.2 with ⟨h2, _⟩ | ⟨g3, cap3, cur3, hv3, hg3, hh, _⟩
  · rw [h2] at e; simp [Value.ownBlock] at e
  · rw [hv3] at e
    obtain rfl : g3 = g := by simpa [Value.ownBlock] using e
    exact ⟨hg3, lt_of_block hh⟩
theorem SRow.nil (w : World) (base : Nat) : SRow w base (.slice none 0 0) [] := World.ownsRow_nil _ _ _ _

theorem infoStr : (Try.prog.info? 9).map (fun i => (i.zero, i.size, i.bytes)) = some (some (.string ⟨#[]⟩), 1, 16) := by kernel_rfl
/-- One text is appended. -/
theorem wpList_append_str {w : World} {ops : Array Oper} {rest : List Oper} {o : Oper} {a : Act} {Q : Exit → Act → World → Prop} (hgd : o.guard = none) (s x : Operand)
    (ho : o.op = .call { callee := .builtin .append, args := #[s, x], argTypes := #[38, 38] }) {base p : Nat} {v : Value} {pre : List ByteArray} {d : ByteArray} (hs : a.eval s = v) (hx : a.eval x = .slice (some ⟨p, 0, none⟩) 1 1)
    (hv : SRow w base v pre) (hb : Blk w p #[.string d] 9) (hbase : base ≤ w.heap.size) (hlen : pre.length ≤ 4194304)
    (h : ∀ g cap w', SRow w' base (.slice (some ⟨g, 0, none⟩) (pre.length + 1) cap) (pre ++ [d]) → w.grownBy w' v.ownBlock → (v.ownBlock = some g ∨ g = w.heap.size) → g < w'.heap.size → wpList Try.prog ops Q rest (a.put o.dst (.slice (some ⟨g, 0, none⟩) (pre.length + 1) cap)) w') : wpList Try.prog ops Q (o :: rest) a w := by
  obtain ⟨i0, hinfo, hz0, hz1, hz2⟩ := info_parts infoStr
  refine wpList_append_lies _ hgd s x 38 ho base 9 i0 (.string ⟨#[]⟩) 1 16 Try.underlying38 hinfo hz0 hz1 hz2 rfl (by decide) v pre.length (pre.map Value.string) hs hv ⟨p, 0, none⟩ 1 1 [.string d] hx rfl (World.news_of_block hb) (by intro u hu; simp at hu; subst hu; rfl) (by decide) (by unfold maxLen; omega) (by omega) hbase w.heap.size rfl ?_
  intro g cap w' h1 h2 h3 h4
  refine h g cap w' ?_ h2 h3 h4
  unfold SRow
  rw [List.length_append, List.map_append]
  exact h1
theorem step_append_str {w : World} {ops : Array Oper} {o : Oper} {a : Act} {K : Act → World → Prop} {Q : Exit → Act → World → Prop} {E : Prop} (hgd : o.guard = none) (s x : Operand)
    (ho : o.op = .call { callee := .builtin .append, args := #[s, x], argTypes := #[38, 38] }) {base p : Nat} {v : Value} {pre : List ByteArray} {d : ByteArray} (hs : a.eval s = v) (hx : a.eval x = .slice (some ⟨p, 0, none⟩) 1 1)
    (hv : SRow w base v pre) (hb : Blk w p #[.string d] 9) (hbase : base ≤ w.heap.size) (hlen : pre.length ≤ 4194304)
    (h : ∀ g cap w', SRow w' base (.slice (some ⟨g, 0, none⟩) (pre.length + 1) cap) (pre ++ [d]) → w.grownBy w' v.ownBlock → (v.ownBlock = some g ∨ g = w.heap.size) → g < w'.heap.size → K (a.put o.dst (.slice (some ⟨g, 0, none⟩) (pre.length + 1) cap)) w') : if Region.wanted o (yielded ops a.tmps) = true then Oper.wp Try.prog o a w K Q else E := by
  obtain ⟨i0, hinfo, hz0, hz1, hz2⟩ := info_parts infoStr
  refine step_append_lies _ hgd s x 38 ho base 9 i0 (.string ⟨#[]⟩) 1 16 Try.underlying38 hinfo hz0 hz1 hz2 rfl (by decide) v pre.length (pre.map Value.string) hs hv ⟨p, 0, none⟩ 1 1 [.string d] hx rfl (World.news_of_block hb) (by intro u hu; simp at hu; subst hu; rfl) (by decide) (by unfold maxLen; omega) (by omega) hbase w.heap.size rfl ?_
  intro g cap w' h1 h2 h3 h4
  refine h g cap w' ?_ h2 h3 h4
  unfold SRow
  rw [List.length_append, List.map_append]
  exact h1
end

/-! append of any row of texts behind texts of one's own. -/
section

open Go.RowKit

def oS (s : ByteArray) : List Value := [.string s]
theorem append_strs (base : Nat) (v : Value) (pre : List ByteArray) (a : Option Addr) (cap : Nat) (xs : List ByteArray) (w : World) (hv : SRow w base v pre) (ro : RowAt w a 1 oS xs) (hbase : base ≤ w.heap.size) (hlen : pre.length + xs.length ≤ 4194304) :
    ∃ v' w', (Builtin.append_ #[38, 38] 38 #[v, .slice a xs.length cap]).run Try.prog w = .ok v' w' ∧ SRow w' base v' (pre ++ xs) ∧ w.grownBy w' v.ownBlock := by
  obtain ⟨i0, hinfo, hz0, hz1, hz2⟩ := info_parts infoStr
  cases a with
  | none =>
    have : xs = [] := by
      cases xs with
      | nil => rfl
      | cons x l => obtain ⟨b, off, h, _⟩ := ro 0 x rfl; cases h
    subst this
    obtain ⟨a1, cap1, rfl, hc⟩ := hv.slice
    refine ⟨_, w, run_append_nothing (P := Try.prog) w 38 38 38 9 i0 Try.underlying38 hinfo a1 _ _ hc _ (Src.ofNil w Try.underlying38 cap), by rw [List.append_nil]; exact hv, ⟨rfl, rfl, rfl, Nat.le_refl _, fun _ _ _ => rfl⟩⟩
  | some ad =>
    obtain ⟨v', w', h1, h2, h3, _⟩ := run_append_own_at (P := Try.prog) w base 38 38 9 i0 (.string ⟨#[]⟩) 1 16 Try.underlying38 hinfo hz0 hz1 hz2 rfl (by decide) v pre.length (pre.map Value.string) hv ad xs.length cap (xs.map Value.string) (by simp) (by
      intro j u hu
      rw [List.getElem?_map] at hu
      obtain ⟨x, hx, rfl⟩ := Option.map_eq_some_iff.1 hu
      obtain ⟨b, off, h, _, hc⟩ := ro j x hx
      cases h
      have h2 := hc 0 (.string x) rfl
      unfold Addr.add
      split
      · rename_i h0
        subst h0
        simpa using h2
      · simpa using h2) (by intro u hu; obtain ⟨x, _, rfl⟩ := List.mem_map.1 hu; rfl) (by unfold maxLen; omega) (by omega) hbase
    refine ⟨v', w', h1, ?_, h3⟩
    unfold SRow
    rw [List.length_append, List.map_append]
    exact h2

theorem wpList_append_strs {w : World} {ops : Array Oper} {rest : List Oper} {o : Oper} {a : Act} {Q : Exit → Act → World → Prop} (hgd : o.guard = none) (s x : Operand)
    (ho : o.op = .call { callee := .builtin .append, args := #[s, x], argTypes := #[38, 38] }) (hty : o.type = 38) {base : Nat} {v : Value} {pre xs : List ByteArray} {ad : Option Addr} {cap : Nat} (hs : a.eval s = v) (hx : a.eval x = .slice ad xs.length cap)
    (hv : SRow w base v pre) (ro : RowAt w ad 1 oS xs) (hbase : base ≤ w.heap.size) (hlen : pre.length + xs.length ≤ 4194304)
    (h : ∀ v' w', SRow w' base v' (pre ++ xs) → w.grownBy w' v.ownBlock → wpList Try.prog ops Q rest (a.put o.dst v') w') : wpList Try.prog ops Q (o :: rest) a w := by
  refine wpList_plain hgd fun K hK => ?_
  obtain ⟨v', w', hr, h2, h3⟩ := append_strs base v pre ad cap xs w hv ro hbase hlen
  unfold Oper.wp execOp
  simp only [ho, hty, resolve, invoke, builtin, Sem.run_bind, Sem.run_pure, Result.andThen_ok, List.map_toArray, List.map_cons, List.map_nil, hs, hx, hr]
  exact hK _ _ (h v' w' h2 h3)

theorem SRow.row {w : World} {base : Nat} {v : Value} {xs : List ByteArray} (h : SRow w base v xs) : ∃ a cap, v = .slice a xs.length cap ∧ RowAt w a 1 oS xs := by
  rcases h.2 with ⟨hv, h0⟩ | ⟨g, cap, cur, hv, hg, hh, hn, hc, hsz, htake⟩
  · have : xs = [] := List.length_eq_zero_iff.1 h0
    subst this
    exact ⟨none, 0, hv, fun i x hx => by simp at hx⟩
  · subst hv
    refine ⟨_, _, rfl, fun i x hx => ⟨g, 0, rfl, lt_of_block hh, fun j v hj => ?_⟩⟩
    have hi := (List.getElem?_eq_some_iff.1 hx).1
    match j, hj with
    | 0, hj =>
      have := h.cellAt (i * 1 + 0) (by omega)
      rw [show 0 + (i * 1 + 0) = i * 1 + 0 by omega, this]
      simp [hx]
      simpa [oS] using hj
    | j + 1, hj => simp [oS] at hj

end

/-! A region that draws its order and holds one call that writes (the hinge): ahead of it and beside it stand operations that read alone; all others wait for it. One walk, in the text's order. No program in sight. -/
section

open Go.RowKit

section
variable {P : Program} {ops : Array Oper} {md : Region.Mode} {pre : Nat → World → Prop} {post : Nat → World → World → Prop}

/-- What an operation must yield in world w: the value v; the world behind it is of class D. -/
def hUpon (P : Program) (D : World → Prop) (w : World) (v : Value) : Result Next → Prop
  | .ok (.value u) w' => w' = w ∧ u = v ∧ D w
  | .ok .skip w' => w' = w ∧ v = undef ∧ D w
  | .ok (.enter f args) w' => w' = w ∧ Calls P f args w (fun e w'' => e = .returned v ∧ D w'')
  | _ => False
def hAt (P : Program) (o : Oper) (a : Act) (D : World → Prop) (w : World) (v : Value) : Prop := hUpon P D w v ((execOp a.eval o).run P w)

/-- Operation number i: one value in every world of its own class; it leaves a world of its own second class. -/
def hOp (P : Program) (ops : Array Oper) (pre : Nat → World → Prop) (post : Nat → World → World → Prop) (i : Nat) (K : Act → Prop) (a : Act) : Prop :=
  match ops[i]? with
  | none => K a
  | some o => if Region.wanted o (yielded ops a.tmps) then (∃ v, (∀ w, pre i w → hAt P o a (post i w) w v) ∧ K (a.put o.dst v)) else K (a.put o.dst undef)

theorem hOp_mono {i : Nat} {a : Act} {K K' : Act → Prop} (h : ∀ a, K a → K' a) (hh : hOp P ops pre post i K a) : hOp P ops pre post i K' a := by
  unfold hOp at *
  split
  · exact h _ (by simpa [*] using hh)
  · rename_i o ho
    simp only [ho] at hh
    split
    · rename_i hw
      simp only [hw, if_true] at hh
      obtain ⟨v, h1, h2⟩ := hh
      exact ⟨v, h1, h _ h2⟩
    · rename_i hw
      simp only [hw] at hh
      exact h _ hh

def wpAnyH (P : Program) (md : Region.Mode) (ops : Array Oper) (pre : Nat → World → Prop) (post : Nat → World → World → Prop) (Q : Array Bool → Act → Prop) : Nat → Array Bool → Act → Prop
  | 0, listed, a => Region.ready md ops listed = [] ∧ Q listed a
  | fuel + 1, listed, a =>
    (Region.ready md ops listed = [] → Q listed a) ∧
    ∀ i ∈ Region.ready md ops listed, hOp P ops pre post i (wpAnyH P md ops pre post Q fuel (listed.setIfInBounds i true)) a

def YieldsH (P : Program) (ops : Array Oper) (pre : Nat → World → Prop) (post : Nat → World → World → Prop) (i : Nat) (o : Oper) (v : Value) (a : Act) : Prop :=
  (Region.wanted o (yielded ops a.tmps) = true ∧ ∀ w, pre i w → hAt P o a (post i w) w v) ∨
  (Region.wanted o (yielded ops a.tmps) = false ∧ v = undef)

theorem YieldsH.hOp {i : Nat} {o : Oper} {v : Value} {a : Act} (hi : ops[i]? = some o) (hy : YieldsH P ops pre post i o v a) {K : Act → Prop} (h : K (a.put o.dst v)) : hOp P ops pre post i K a := by
  unfold Go.Proofs.Ythknfikjanoflaa.hOp
  simp only [hi]
  rcases hy with ⟨hw, hv⟩ | ⟨hw, rfl⟩
  · simp only [hw, if_true]; exact ⟨v, hv, h⟩
  · simp only [hw, Bool.false_eq_true, if_false]; exact h

theorem YieldsH.of_same {i : Nat} {o : Oper} {v : Value} {a a' : Act} (hy : YieldsH P ops pre post i o v a) (he : execOp a'.eval o = execOp a.eval o)
    (hw : Region.wanted o (yielded ops a'.tmps) = Region.wanted o (yielded ops a.tmps)) : YieldsH P ops pre post i o v a' := by
  unfold YieldsH hAt at *
  rw [he, hw]
  exact hy

theorem yieldsH_of_hOp {i : Nat} {o : Oper} {a : Act} {K : Act → Prop} (hi : ops[i]? = some o) (h : hOp P ops pre post i K a) : ∃ v, YieldsH P ops pre post i o v a ∧ K (a.put o.dst v) := by
  unfold hOp at h
  simp only [hi] at h
  by_cases hw : Region.wanted o (yielded ops a.tmps) = true
  · simp only [hw, if_true] at h
    obtain ⟨v, h1, h2⟩ := h
    exact ⟨v, .inl ⟨hw, h1⟩, h2⟩
  · simp only [hw] at h
    exact ⟨undef, .inr ⟨by simpa using hw, rfl⟩, h⟩

theorem hOp_put {i j : Nat} {oi oj : Oper} {v : Value} (hj : ops[j]? = some oj) (hap : oi.apart ops oj = true)
    (hsi : ∀ cs b, oi.op ≠ .select cs b) (hsj : ∀ cs b, oj.op ≠ .select cs b) {K : Act → Prop} {a : Act}
    (hy : YieldsH P ops pre post i oi v a) (h : hOp P ops pre post j K (a.put oi.dst v)) :
    hOp P ops pre post j (fun a' => YieldsH P ops pre post i oi v a' ∧ K (a'.put oi.dst v)) a := by
  obtain ⟨h1, h2, h3⟩ := Oper.apart_spec hap
  have keep : ∀ (a : Act), YieldsH P ops pre post i oi v a → ∀ u, YieldsH P ops pre post i oi v (a.put oj.dst u) := fun a hy u =>
    hy.of_same (execOp_put oi hsi a oj.dst u h3) (wanted_put oi a oj.dst u h3)
  unfold hOp at *
  simp only [hj] at *
  rw [wanted_put oj a oi.dst v h1] at h
  split
  · rename_i hw
    simp only [hw, if_true] at h
    obtain ⟨u, hu, hn⟩ := h
    refine ⟨u, fun w hw' => ?_, keep a hy u, by rw [← Act.put_comm a v u h2]; exact hn⟩
    have := hu w hw'
    unfold hAt at *
    rwa [execOp_put oj hsj a oi.dst v h1] at this
  · rename_i hw
    simp only [hw] at h
    exact ⟨keep a hy _, by rw [← Act.put_comm a v undef h2]; exact h⟩

theorem wpAnyH_first {Q : Array Bool → Act → Prop} {i : Nat} {oi : Oper} {v : Value} (hi : ops[i]? = some oi) (hsel : ∀ (j : Nat) (o : Oper) cs b, ops[j]? = some o → o.op ≠ .select cs b) :
    ∀ (fuel : Nat) (listed : Array Bool) (a : Act),
      (∀ j oj, ops[j]? = some oj → j ≠ i → listed.getD j true = false → (∀ e ∈ oj.after, Region.binds md e = true → e.on ≠ i) → oi.apart ops oj = true) →
      i ∈ Region.ready md ops listed → YieldsH P ops pre post i oi v a →
      wpAnyH P md ops pre post Q fuel (listed.setIfInBounds i true) (a.put oi.dst v) → wpAnyH P md ops pre post Q (fuel + 1) listed a := by
  intro fuel
  induction fuel with
  | zero =>
    intro listed a _ hr hy H
    refine ⟨fun h => (by rw [h] at hr; cases hr), fun j hj => ?_⟩
    by_cases hji : j = i
    · subst hji; exact hy.hOp hi H
    · have := ready_mono hj hji
      rw [H.1] at this
      cases this
  | succ fuel ih =>
    intro listed a hfree hr hy H
    refine ⟨fun h => (by rw [h] at hr; cases hr), fun j hj => ?_⟩
    by_cases hji : j = i
    · subst hji; exact hy.hOp hi H
    · have h1 := H.2 j (ready_mono hj hji)
      obtain ⟨hjun, oj, hoj, hall⟩ := mem_ready.1 hj
      have hnot : ∀ e ∈ oj.after, Region.binds md e = true → e.on ≠ i := fun e he hb heq => by
        have h1 := hall e he hb
        have h0 := (mem_ready.1 hr).1
        rw [heq] at h1
        rcases Nat.lt_or_ge i listed.size with h' | h'
        · simp [h'] at h0 h1; rw [h0] at h1; cases h1
        · simp [Array.getElem?_eq_none h'] at h1
      have h2 := hOp_put hoj (hfree j oj hoj hji hjun hnot) (fun cs b => hsel i oi cs b hi) (fun cs b => hsel j oj cs b hoj) hy h1
      have hfree' : ∀ k ok, ops[k]? = some ok → k ≠ i → (listed.setIfInBounds j true).getD k true = false →
          (∀ e ∈ ok.after, Region.binds md e = true → e.on ≠ i) → oi.apart ops ok = true := fun k ok hk hki hun hno => by
        refine hfree k ok hk hki ?_ hno
        by_cases hjk : j = k
        · subst hjk; exact hjun
        · rw [getD_set_ne true hjk] at hun; exact hun
      refine hOp_mono (fun a' h3 => ih (listed.setIfInBounds j true) a' hfree' (ready_mono hr (Ne.symm hji)) h3.1 ?_) h2
      rw [Array.setIfInBounds_comm _ _ hji]
      exact h3.2

/-- The operations one behind the other, from number k on. -/
def wpHinge (P : Program) (ops : Array Oper) (pre : Nat → World → Prop) (post : Nat → World → World → Prop) (Q : Act → Prop) : Nat → List Oper → Act → Prop
  | _, [], a => Q a
  | k, o :: rest, a => if Region.wanted o (yielded ops a.tmps) then (∃ v, (∀ w, pre k w → hAt P o a (post k w) w v) ∧ wpHinge P ops pre post Q (k + 1) rest (a.put o.dst v)) else wpHinge P ops pre post Q (k + 1) rest (a.put o.dst undef)

theorem set_get {listed : Array Bool} {i : Nat} (h : i < listed.size) : (listed.setIfInBounds i true).getD i false = true := by
  simp [h]
theorem wpAnyH_lex {Q : Act → Prop} {h : Nat} (hs : Region.noSelect ops = true) : ∀ (l : List Oper) (k : Nat) (listed : Array Bool) (a : Act), (∀ j, l[j]? = ops[k + j]?) →
    Region.lexFrom md ops l.length k listed = true → listed.size = ops.size → h < k + l.length → (k ≤ h ∨ listed.getD h false = true) → wpHinge P ops pre post Q k l a → wpAnyH P md ops pre post (fun ls a => ls.getD h false = true ∧ Q a) l.length listed a
  | [], _, _, _, _, hB, _, hk, hl2, h => ⟨by simpa [Region.lexFrom] using hB, by rcases hl2 with h1 | h1; (simp at hk; omega); exact h1, h⟩
  | o :: l, k, listed, a, hl, hB, hz, hk, hl2, h => by
    have h0 : ops[k]? = some o := by simpa using (hl 0).symm
    have hkl : k < listed.size := by rw [hz]; exact (Array.getElem?_eq_some_iff.1 h0).1
    simp only [List.length_cons, Region.lexFrom, Bool.and_eq_true] at hB
    obtain ⟨⟨hr, hf⟩, hB'⟩ := hB
    have hst : hOp P ops pre post k (wpHinge P ops pre post Q (k + 1) l) a := by unfold hOp; simp only [h0]; exact h
    obtain ⟨v, hy, hK⟩ := yieldsH_of_hOp h0 hst
    refine wpAnyH_first h0 (Region.noSelect_spec hs) l.length listed a (Region.free_spec h0 hf) (by simpa using hr) hy
      (wpAnyH_lex hs l (k + 1) _ _ (fun j => by have := hl (j + 1); simpa [Nat.add_assoc, Nat.add_comm 1 j] using this) hB' (by simpa using hz) (by simp at hk; omega) ?_ hK)
    rcases hl2 with h1 | h1
    · rcases Nat.lt_or_eq_of_le h1 with h2 | h2
      · exact .inl h2
      · exact .inr (by rw [← h2]; exact set_get hkl)
    · exact .inr (getD_set_true h1)

/-- The world's class while these operations have come up. -/
def Phase (h : Nat) (C0 C1 : World → Prop) (listed : Array Bool) (w : World) : Prop := if listed.getD h false = true then C1 w else C0 w

/-- Is number i neither the hinge nor one that reads alone beside it? -/
def Waits (h : Nat) (u : Nat → Bool) (i : Nat) : Prop := i ≠ h ∧ u i = false

/-- Whatever order is picked: its operations stand in worlds of their classes. -/
theorem wpAny_of_hinge {h : Nat} {u : Nat → Bool} {U C0 C1 : World → Prop} {Q : Act → Prop} {Q' : Exit → Act → World → Prop} (h0 : ∀ w, C0 w → U w) (h1 : ∀ w, C1 w → U w)
    (hp : ∀ i, pre i = if i = h then C0 else if u i = true then U else C1) (hq : ∀ i w, post i w = if i = h then C1 else if u i = true then (fun w' => w' = w) else C1)
    (hw : ∀ i o, ops[i]? = some o → Waits h u i → ∃ e ∈ o.after, Region.binds md e = true ∧ (e.on = h ∨ Waits h u e.on))
    (hg : ∀ o, ops[h]? = some o → o.guard = none) (hQ : ∀ a w, C1 w → Q a → Q' .normal a w) : ∀ (fuel : Nat) (listed : Array Bool) (a : Act) (w : World), listed.size = ops.size → (∀ j, Waits h u j → listed.getD j false = true → listed.getD h false = true) → Phase h C0 C1 listed w →
    wpAnyH P md ops pre post (fun ls a => ls.getD h false = true ∧ Q a) fuel listed a → wpAny P md ops Q' fuel listed a w
  | 0, listed, a, w, hs, hc, hC, H => by
    refine ⟨H.1, hQ _ _ ?_ H.2.2⟩
    unfold Phase at hC
    rwa [if_pos H.2.1] at hC
  | fuel + 1, listed, a, w, hs, hc, hC, H => by
    refine ⟨fun hr => hQ _ _ ?_ (H.1 hr).2, fun i hi => ?_⟩
    · unfold Phase at hC
      rwa [if_pos (H.1 hr).1] at hC
    · have h2 := H.2 i hi
      obtain ⟨hun, o, ho, hall⟩ := mem_ready.1 hi
      have hil : i < listed.size := by rw [hs]; exact (Array.getElem?_eq_some_iff.1 ho).1
      have hun' : listed.getD i false = false := by
        simp only [Array.getD_eq_getD_getElem?, Array.getElem?_eq_getElem hil, Option.getD_some] at hun ⊢
        exact hun
      have hlist : Waits h u i → listed.getD h false = true := fun hwi => by
        obtain ⟨e, he, hb, h3⟩ := hw i o ho hwi
        have h4 := hall e he hb
        rcases h3 with h3 | h3
        · rwa [h3] at h4
        · exact hc _ h3 h4
      have hpre : pre i w := by
        rw [hp]
        unfold Phase at hC
        by_cases hih : i = h
        · rw [if_pos hih]
          rw [if_neg (by rw [← hih, hun']; simp)] at hC
          exact hC
        · rw [if_neg hih]
          by_cases hui : u i = true
          · rw [if_pos hui]
            split at hC
            · exact h1 _ hC
            · exact h0 _ hC
          · rw [if_neg hui]
            rw [if_pos (hlist ⟨hih, by simpa using hui⟩)] at hC
            exact hC
      have hs2 : (listed.setIfInBounds i true).size = ops.size := by simpa using hs
      have hc2 : ∀ j, Waits h u j → (listed.setIfInBounds i true).getD j false = true → (listed.setIfInBounds i true).getD h false = true := fun j hj hjl => by
        by_cases hij : i = j
        · subst hij
          exact getD_set_true (hlist hj)
        · rw [getD_set_ne false hij] at hjl
          exact getD_set_true (hc j hj hjl)
      have hpost : ∀ w', post i w w' → Phase h C0 C1 (listed.setIfInBounds i true) w' := fun w' hw' => by
        rw [hq] at hw'
        by_cases hih : i = h
        · rw [if_pos hih] at hw'
          unfold Phase
          rw [if_pos (by rw [← hih]; exact set_get hil)]
          exact hw'
        · rw [if_neg hih] at hw'
          by_cases hui : u i = true
          · rw [if_pos hui] at hw'
            rw [hw']
            unfold Phase at hC ⊢
            rwa [getD_set_ne false hih]
          · rw [if_neg hui] at hw'
            unfold Phase
            rw [if_pos (getD_set_true (hlist ⟨hih, by simpa using hui⟩))]
            exact hw'
      have hskip : Region.wanted o (yielded ops a.tmps) ≠ true → Phase h C0 C1 (listed.setIfInBounds i true) w := fun hn => by
        by_cases hih : i = h
        · exact absurd (by unfold Region.wanted; rw [hg o (by rw [← hih]; exact ho)]) hn
        · unfold Phase at hC ⊢
          rwa [getD_set_ne false hih]
      have ih := fun a' w' (hw' : Phase h C0 C1 (listed.setIfInBounds i true) w') hk => wpAny_of_hinge h0 h1 hp hq hw hg hQ fuel (listed.setIfInBounds i true) a' w' hs2 hc2 hw' hk
      unfold hOp at h2
      unfold wpOp
      simp only [ho] at h2 ⊢
      split
      · rename_i hwant
        simp only [hwant, if_true] at h2
        obtain ⟨v, hv, hk⟩ := h2
        have h3 := hv w hpre
        left
        unfold hAt at h3
        unfold Oper.wp
        generalize (execOp a.eval o).run P w = r at *
        cases r with
        | ok n w' =>
          cases n <;> simp only [hUpon] at h3 <;> simp only [Oper.upon]
          case value x =>
            obtain ⟨e1, e2, e3⟩ := h3
            rw [e1, e2]
            exact ih _ _ (hpost _ e3) hk
          case skip =>
            obtain ⟨e1, e2, e3⟩ := h3
            rw [e1, ← e2]
            exact ih _ _ (hpost _ e3) hk
          case enter f args =>
            obtain ⟨e1, hc⟩ := h3
            rw [e1]
            exact hc.mono fun e w'' ⟨he, hw''⟩ => by subst he; exact ih _ _ (hpost _ hw'') hk
        | halt x w' => simp only [hUpon] at h3
      · rename_i hwant
        simp only [hwant] at h2
        exact ih _ _ (hskip hwant) h2

/-- Operations that read alone, or hand a value on. -/
def readOp : Op → Bool
  | .move _ | .assign _ | .load _ _ | .fieldAddr _ _ _ | .indexAddr _ _ _ | .field _ _ _ | .extract _ _ => true
  | _ => false
theorem hAt_read {o : Oper} {a : Act} {C : World → Prop} {w : World} {v : Value} (hr : readOp o.op = true) (h : o.quietAt P a C w v) : hAt P o a (fun w' => w' = w) w v := by
  unfold Oper.quietAt at h
  unfold hAt
  have hne : ∀ f args w', (execOp a.eval o).run P w ≠ .ok (.enter f args) w' := by
    intro f args w' he
    unfold execOp at he
    cases hop : o.op <;> rw [hop] at hr <;> simp [readOp] at hr <;> rw [hop] at he <;> simp [Sem.run_bind] at he <;> (try (revert he; unfold Result.andThen; split <;> simp))
  generalize (execOp a.eval o).run P w = r at *
  cases r with
  | ok n w' =>
    cases n <;> simp only [Oper.quietUpon] at h <;> simp only [hUpon]
    case value x => exact ⟨h.1, h.2, trivial⟩
    case skip => exact ⟨h.1, h.2, trivial⟩
    case enter f args => exact absurd rfl (hne f args w')
  | halt x w' => simp only [Oper.quietUpon] at h
theorem hAt_quiet {o : Oper} {a : Act} {C : World → Prop} {w : World} {v : Value} (hw : C w) (h : o.quietAt P a C w v) : hAt P o a C w v := by
  unfold Oper.quietAt at h
  unfold hAt
  generalize (execOp a.eval o).run P w = r at *
  cases r with
  | ok n w' =>
    cases n <;> simp only [Oper.quietUpon] at h <;> simp only [hUpon]
    case value x => exact ⟨h.1, h.2, hw⟩
    case skip => exact ⟨h.1, h.2, hw⟩
    case enter f args => exact h
  | halt x w' => simp only [Oper.quietUpon] at h

theorem wpHinge_reads {U : World → Prop} {Q : Act → Prop} {l2 : List Oper} : ∀ (l1 : List Oper) (k : Nat) (a : Act), (∀ j, j < l1.length → pre (k + j) = U ∧ ∀ w, post (k + j) w = fun w' => w' = w) → l1.all (fun o => readOp o.op) = true →
    wpQuiet P ops U (fun a => wpHinge P ops pre post Q (k + l1.length) l2 a) l1 a → wpHinge P ops pre post Q k (l1 ++ l2) a
  | [], k, a, _, _, h => h
  | o :: l1, k, a, hp, hr, h => by
    have hr' := hr
    simp only [List.all_cons, Bool.and_eq_true] at hr
    have ih := fun a => wpHinge_reads (U := U) (Q := Q) (l2 := l2) l1 (k + 1) a (fun j hj => by have := hp (j + 1) (by simpa using hj); rwa [show k + (j + 1) = k + 1 + j by omega] at this) hr.2
    rw [show k + (o :: l1).length = k + 1 + l1.length by simp; omega] at h
    unfold wpQuiet at h
    show wpHinge P ops pre post Q k (o :: (l1 ++ l2)) a
    unfold wpHinge
    split
    · rename_i hw
      rw [if_pos hw] at h
      obtain ⟨v, hv, hk⟩ := h
      have := hp 0 (by simp)
      refine ⟨v, fun w hpw => ?_, ih _ hk⟩
      rw [show k = k + 0 by omega, this.1] at hpw
      rw [show k = k + 0 by omega, this.2]
      exact hAt_read hr.1 (hv w hpw)
    · rename_i hw
      rw [if_neg hw] at h
      exact ih _ h
theorem wpHinge_rest {C : World → Prop} {Q : Act → Prop} : ∀ (l1 : List Oper) (k : Nat) (a : Act), (∀ j, j < l1.length → pre (k + j) = C ∧ ∀ w, post (k + j) w = C) →
    wpQuiet P ops C Q l1 a → wpHinge P ops pre post Q k l1 a
  | [], k, a, _, h => h
  | o :: l1, k, a, hp, h => by
    have ih := fun a => wpHinge_rest (C := C) (Q := Q) l1 (k + 1) a (fun j hj => by have := hp (j + 1) (by simpa using hj); rwa [show k + (j + 1) = k + 1 + j by omega] at this)
    unfold wpQuiet at h
    unfold wpHinge
    split
    · rename_i hw
      rw [if_pos hw] at h
      obtain ⟨v, hv, hk⟩ := h
      have := hp 0 (by simp)
      refine ⟨v, fun w hpw => ?_, ih _ hk⟩
      rw [show k = k + 0 by omega, this.1] at hpw
      rw [show k = k + 0 by omega, this.2]
      exact hAt_quiet hpw (hv w hpw)
    · rename_i hw
      rw [if_neg hw] at h
      exact ih _ h

theorem wpQuiet_mono {C : World → Prop} {Q Q' : Act → Prop} (h : ∀ a, Q a → Q' a) : ∀ (l : List Oper) (a : Act), wpQuiet P ops C Q l a → wpQuiet P ops C Q' l a
  | [], a, hh => h a hh
  | o :: l, a, hh => by
    unfold wpQuiet at *
    split
    · rename_i hw
      rw [if_pos hw] at hh
      exact Oper.quiet_mono (wpQuiet_mono h l) hh
    · rename_i hw
      rw [if_neg hw] at hh
      exact wpQuiet_mono h l _ hh

/-- Does all behind number n + m wait for number n? -/
def waitsB (ops : Array Oper) (n m : Nat) : Bool :=
  (List.range ops.size).all fun i => i ≤ n + m || ((ops[i]?).map fun o => o.after.any fun e => Region.binds .any e && (e.on == n || decide (n + m < e.on))).getD true

theorem rep_get (n j : Nat) : (Array.replicate n false).getD j false = false := by
  rw [Array.getD_eq_getD_getElem?, Array.getElem?_replicate]
  split <;> rfl
/-- The region: l1 (reads), the hinge, l2 (reads), l3 (waits for the hinge). -/
theorem wp_region_hinge {id : Nat} {Q : Exit → Act → World → Prop} {a : Act} {w : World} {l l1 l2 l3 : List Oper} {oh : Oper} {U C0 C1 : World → Prop} (hl : l = l1 ++ oh :: (l2 ++ l3)) (hm : P.follows .mixedOrders = true) (hB : Region.lexB .any l.toArray = true)
    (hwB : waitsB l.toArray l1.length l2.length = true) (hr1 : l1.all (fun o => readOp o.op) = true) (hr2 : l2.all (fun o => readOp o.op) = true) (hg : oh.guard = none) (h0 : ∀ w, C0 w → U w) (h1 : ∀ w, C1 w → U w) (hC : C0 w.drew)
    (H : wpQuiet P l.toArray U (fun a1 => ∃ v, (∀ w, C0 w → hAt P oh a1 C1 w v) ∧
      wpQuiet P l.toArray U (fun a2 => wpQuiet P l.toArray C1 (fun a' => ∀ w', C1 w' → Q .normal a' w') l3 a2) l2 (a1.put oh.dst v)) l1 a) : (Code.region id l.toArray true).wp P Q a w := by
  subst hl
  obtain ⟨n, hn⟩ : ∃ n, n = l1.length := ⟨_, rfl⟩
  obtain ⟨m, hm2⟩ : ∃ m, m = l2.length := ⟨_, rfl⟩
  obtain ⟨ops, hops⟩ : ∃ ops, ops = (l1 ++ oh :: (l2 ++ l3)).toArray := ⟨_, rfl⟩
  rw [← hops] at hB hwB H ⊢
  rw [← hn, ← hm2] at hwB
  obtain ⟨pre, hpre⟩ : ∃ pre : Nat → World → Prop, pre = fun i => if i = n then C0 else if decide (i ≤ n + m) = true then U else C1 := ⟨_, rfl⟩
  obtain ⟨post, hpost⟩ : ∃ post : Nat → World → World → Prop, post = fun i w => if i = n then C1 else if decide (i ≤ n + m) = true then (fun w' => w' = w) else C1 := ⟨_, rfl⟩
  have hwalk : wpHinge P ops pre post (fun a' => ∀ w', C1 w' → Q .normal a' w') 0 (l1 ++ oh :: (l2 ++ l3)) a := by
    refine wpHinge_reads (U := U) l1 0 a (fun j hj => ⟨?_, fun w => ?_⟩) hr1 (wpQuiet_mono ?_ l1 a H)
    · rw [hpre]
      simp only
      rw [if_neg (by omega), if_pos (by simp; omega)]
    · rw [hpost]
      simp only
      rw [if_neg (by omega), if_pos (by simp; omega)]
    · rintro a1 ⟨v, hv, H2⟩
      have hwant : Region.wanted oh (yielded ops a1.tmps) = true := by unfold Region.wanted; rw [hg]
      unfold wpHinge
      rw [if_pos hwant]
      refine ⟨v, fun w hw => ?_, ?_⟩
      · rw [hpre] at hw
        rw [hpost]
        simp only at hw ⊢
        rw [if_pos (by omega)] at hw
        rw [if_pos (by omega)]
        exact hv w hw
      · refine wpHinge_reads (U := U) l2 _ _ (fun j hj => ⟨?_, fun w => ?_⟩) hr2 (wpQuiet_mono ?_ l2 _ H2)
        · rw [hpre]
          simp only
          rw [if_neg (by omega), if_pos (by simp; omega)]
        · rw [hpost]
          simp only
          rw [if_neg (by omega), if_pos (by simp; omega)]
        · intro a2 H3
          refine wpHinge_rest (C := C1) l3 _ _ (fun j hj => ⟨?_, fun w => ?_⟩) H3
          · rw [hpre]
            simp only
            rw [if_neg (by omega), if_neg (by simp; omega)]
          · rw [hpost]
            simp only
            rw [if_neg (by omega), if_neg (by simp; omega)]
  simp only [Region.lexB, Bool.and_eq_true] at hB
  have hsz : ops.size = (l1 ++ oh :: (l2 ++ l3)).length := by rw [hops]; simp
  have hopn : ops[n]? = some oh := by rw [hops, hn]; simp
  refine wp_region_any hm (wpAny_of_hinge (md := .any) (h := n) (u := fun i => decide (i ≤ n + m)) (U := U) (C0 := C0) (C1 := C1) (pre := pre) (post := post) (Q := fun a' => ∀ w', C1 w' → Q .normal a' w') h0 h1 (fun i => by rw [hpre]) (fun i w => by rw [hpost]) ?_ ?_ (fun a w hw h => h w hw) _ _ _ _ (by simp) ?_ ?_ ?_)
  · intro i o ho hwi
    have hi : i < ops.size := (Array.getElem?_eq_some_iff.1 ho).1
    unfold waitsB at hwB
    have h2 := List.all_eq_true.1 hwB i (by simpa using hi)
    obtain ⟨hi1, hi2⟩ := hwi
    simp only [decide_eq_false_iff_not] at hi2
    rw [ho] at h2
    simp only [Bool.or_eq_true, decide_eq_true_eq, Option.map_some, Option.getD_some] at h2
    have h3 := h2.resolve_left hi2
    obtain ⟨e, he, hb⟩ := Array.any_eq_true'.1 h3
    simp only [Bool.and_eq_true, Bool.or_eq_true, beq_iff_eq, decide_eq_true_eq] at hb
    refine ⟨e, he, hb.1, hb.2.imp (fun h4 => h4) fun h4 => ⟨by omega, by simp; omega⟩⟩
  · intro o ho
    rw [hopn] at ho
    cases ho
    exact hg
  · intro j _ hj
    rw [rep_get] at hj
    cases hj
  · unfold Phase
    rw [if_neg (by rw [rep_get]; simp)]
    exact hC
  · have := wpAnyH_lex (md := .any) (h := n) hB.1 (l1 ++ oh :: (l2 ++ l3)) 0 (Array.replicate ops.size false) a (by rw [hops]; simp) (by rw [← hsz]; exact hB.2) (by simp) (by rw [hn]; simp) (.inl (Nat.zero_le _)) hwalk
    rw [← hsz] at this
    exact this
end
end

/-! A region that draws its order and ends in operations that one order alone allows (a store, an append, a conversion): what stands ahead of them is walked once, in the text's order, in classes of worlds; the end as a list. No program in sight. -/
section

open Go.RowKit

section
variable {P : Program} {ops : Array Oper} {md : Region.Mode} {pre : Nat → World → Prop} {post : Nat → World → World → Prop}

def wpAnyT (P : Program) (md : Region.Mode) (ops : Array Oper) (pre : Nat → World → Prop) (post : Nat → World → World → Prop) (n : Nat) (L : Array Bool → Act → Prop) : Nat → Array Bool → Act → Prop
  | 0, listed, a => L listed a
  | f + 1, listed, a =>
    Region.ready md ops listed ≠ [] ∧ ∀ i ∈ Region.ready md ops listed, i < n ∧ hOp P ops pre post i (wpAnyT P md ops pre post n L f (listed.setIfInBounds i true)) a

theorem wpAny_of_headT {n g : Nat} {L : Array Bool → Act → Prop} {Q' : Exit → Act → World → Prop} {Ph : Array Bool → World → Prop}
    (hStep : ∀ listed i o w, HeadInv md ops n listed → Ph listed w → i ∈ Region.ready md ops listed → i < n → ops[i]? = some o → pre i w ∧ (∀ w', post i w w' → Ph (listed.setIfInBounds i true) w') ∧ (o.guard ≠ none → Ph (listed.setIfInBounds i true) w))
    (hL : ∀ listed a w, Ph listed w → L listed a → wpAny P md ops Q' g listed a w) :
    ∀ (f : Nat) (listed : Array Bool) (a : Act) (w : World), HeadInv md ops n listed → Ph listed w → wpAnyT P md ops pre post n L f listed a → wpAny P md ops Q' (f + g) listed a w
  | 0, listed, a, w, _, hp, h => by rw [Nat.zero_add]; exact hL _ _ _ hp h
  | f + 1, listed, a, w, inv, hp, h => by
    rw [show f + 1 + g = (f + g) + 1 by omega]
    refine ⟨fun h0 => absurd h0 h.1, fun i hi => ?_⟩
    obtain ⟨hin, h2⟩ := h.2 i hi
    obtain ⟨_, o, ho, _⟩ := mem_ready.1 hi
    obtain ⟨s1, s2, s3⟩ := hStep listed i o w inv hp hi hin ho
    have ih := fun a' w' (hw' : Ph (listed.setIfInBounds i true) w') hk => wpAny_of_headT hStep hL f (listed.setIfInBounds i true) a' w' (inv.set hi hin) hw' hk
    unfold hOp at h2
    unfold wpOp
    simp only [ho] at h2 ⊢
    split
    · rename_i hwant
      simp only [hwant, if_true] at h2
      obtain ⟨v, hv, hk⟩ := h2
      have h3 := hv w s1
      left
      unfold hAt at h3
      unfold Oper.wp
      generalize (execOp a.eval o).run P w = r at *
      cases r with
      | ok n' w' =>
        cases n' <;> simp only [hUpon] at h3 <;> simp only [Oper.upon]
        case value x =>
          obtain ⟨e1, e2, e3⟩ := h3
          rw [e1, e2]
          exact ih _ _ (s2 _ e3) hk
        case skip =>
          obtain ⟨e1, e2, e3⟩ := h3
          rw [e1, ← e2]
          exact ih _ _ (s2 _ e3) hk
        case enter fn args =>
          obtain ⟨e1, hc⟩ := h3
          rw [e1]
          exact hc.mono fun e w'' ⟨he, hw''⟩ => by subst he; exact ih _ _ (s2 _ hw'') hk
      | halt x w' => simp only [hUpon] at h3
    · rename_i hwant
      simp only [hwant] at h2
      refine ih _ _ (s3 fun hg => ?_) h2
      apply hwant
      unfold Region.wanted
      rw [hg]

theorem wpAnyT_first {n i : Nat} {oi : Oper} {v : Value} {L : Array Bool → Act → Prop} (hi : ops[i]? = some oi) (hsel : ∀ (j : Nat) (o : Oper) cs b, ops[j]? = some o → o.op ≠ .select cs b)
    (hs : Region.sinkB md ops n = true) (hc : Region.chainB md ops n = true) (hn : n < ops.size) (hin : i < n)
    (hdone : ∀ listed a, L listed a → ∀ j ∈ Region.ready md ops listed, n ≤ j) :
    ∀ (f : Nat) (listed : Array Bool) (a : Act), HeadInv md ops n listed →
      (∀ j oj, ops[j]? = some oj → j ≠ i → listed.getD j true = false → (∀ e ∈ oj.after, Region.binds md e = true → e.on ≠ i) → oi.apart ops oj = true) →
      i ∈ Region.ready md ops listed → YieldsH P ops pre post i oi v a →
      wpAnyT P md ops pre post n L f (listed.setIfInBounds i true) (a.put oi.dst v) → wpAnyT P md ops pre post n L (f + 1) listed a := by
  intro f
  induction f with
  | zero =>
    intro listed a inv _ hr hy H
    have hun := (mem_ready.1 hr).1
    refine ⟨fun h => (by rw [h] at hr; cases hr), fun j hj => ?_⟩
    have hjn : j < n := by
      rcases Nat.lt_or_ge j n with h | h
      · exact h
      · exact absurd hj (tail_waits hs hc hn inv _ i rfl hin hun j h)
    refine ⟨hjn, ?_⟩
    by_cases hji : j = i
    · subst hji; exact hy.hOp hi H
    · have := hdone _ _ H j (ready_mono hj hji)
      omega
  | succ f ih =>
    intro listed a inv hfree hr hy H
    have hun := (mem_ready.1 hr).1
    refine ⟨fun h => (by rw [h] at hr; cases hr), fun j hj => ?_⟩
    have hjn : j < n := by
      rcases Nat.lt_or_ge j n with h | h
      · exact h
      · exact absurd hj (tail_waits hs hc hn inv _ i rfl hin hun j h)
    refine ⟨hjn, ?_⟩
    by_cases hji : j = i
    · subst hji; exact hy.hOp hi H
    · have h1 := (H.2 j (ready_mono hj hji)).2
      obtain ⟨hjun, oj, hoj, hall⟩ := mem_ready.1 hj
      have hnot : ∀ e ∈ oj.after, Region.binds md e = true → e.on ≠ i := fun e he hb heq => by
        have h1 := hall e he hb
        rw [heq, getD_both hun] at h1
        cases h1
      have h2 := hOp_put hoj (hfree j oj hoj hji hjun hnot) (fun cs b => hsel i oi cs b hi) (fun cs b => hsel j oj cs b hoj) hy h1
      have hfree' : ∀ k ok, ops[k]? = some ok → k ≠ i → (listed.setIfInBounds j true).getD k true = false →
          (∀ e ∈ ok.after, Region.binds md e = true → e.on ≠ i) → oi.apart ops ok = true := fun k ok hk hki hun hno => by
        refine hfree k ok hk hki ?_ hno
        by_cases hjk : j = k
        · subst hjk; exact hjun
        · rw [getD_set_ne true hjk] at hun; exact hun
      refine hOp_mono (fun a' h3 => ih (listed.setIfInBounds j true) a' (inv.set hj hjn) hfree' (ready_mono hr (Ne.symm hji)) h3.1 ?_) h2
      rw [Array.setIfInBounds_comm _ _ hji]
      exact h3.2

theorem wpAnyT_lex {n g : Nat} {Lq : Act → Prop} (hsel : Region.noSelect ops = true) (hs : Region.sinkB md ops n = true) (hc : Region.chainB md ops n = true) (hn : n < ops.size) :
    ∀ (l : List Oper) (k : Nat) (listed : Array Bool) (a : Act), (∀ j, j < l.length → l[j]? = ops[k + j]?) → k + l.length = n → HeadInv md ops n listed → (∀ j, j < k → listed.getD j false = true) →
    Region.lexHead md ops g l.length k listed = true → wpHinge P ops pre post Lq k l a →
    wpAnyT P md ops pre post n (fun listed' a' => Region.seqB md ops g n listed' = true ∧ (∀ j, j < n → listed'.getD j false = true) ∧ Lq a') l.length listed a
  | [], k, listed, a, _, hk, _, hall, hB, h => by
    have : k = n := by simpa using hk
    subst this
    exact ⟨by simpa [Region.lexHead] using hB, hall, h⟩
  | o :: l, k, listed, a, hl, hk, inv, hall, hB, h => by
    have h0 : ops[k]? = some o := by simpa using (hl 0 (by simp)).symm
    simp only [List.length_cons, Region.lexHead, Bool.and_eq_true] at hB
    obtain ⟨⟨hr, hf⟩, hB'⟩ := hB
    have hkn : k < n := by simp only [List.length_cons] at hk; omega
    have hr' : k ∈ Region.ready md ops listed := by simpa using hr
    have hst : hOp P ops pre post k (wpHinge P ops pre post Lq (k + 1) l) a := by unfold hOp; simp only [h0]; exact h
    obtain ⟨v, hy, hK⟩ := yieldsH_of_hOp h0 hst
    refine wpAnyT_first h0 (Region.noSelect_spec hsel) hs hc hn hkn (fun listed' a' hL => seqB_ready hL.1) l.length listed a inv (Region.free_spec h0 hf) hr' hy
      (wpAnyT_lex hsel hs hc hn l (k + 1) _ _ (fun j hj => by have := hl (j + 1) (by simp; omega); simpa [Nat.add_assoc, Nat.add_comm 1 j] using this) (by simp only [List.length_cons] at hk; omega) (inv.set hr' hkn) (fun j hj => ?_) hB' hK)
    by_cases hjk : j = k
    · subst hjk
      exact set_get (by rw [inv.size]; exact (Array.getElem?_eq_some_iff.1 h0).1)
    · exact getD_set_true (hall j (by omega))

/-- The tail's way, of a staged head. -/
theorem wp_region_staged {id : Nat} {Q : Exit → Act → World → Prop} {a : Act} {w : World} {l : List Oper} (n : Nat) {Ph : Array Bool → World → Prop} {Cend : World → Prop} (hm : P.follows .mixedOrders = true) (hB : Region.lexTailB .any l.toArray n = true)
    (hStep : ∀ listed i o w, HeadInv .any l.toArray n listed → Ph listed w → i ∈ Region.ready .any l.toArray listed → i < n → l.toArray[i]? = some o → pre i w ∧ (∀ w', post i w w' → Ph (listed.setIfInBounds i true) w') ∧ (o.guard ≠ none → Ph (listed.setIfInBounds i true) w))
    (hStart : Ph (Array.replicate l.toArray.size false) w.drew) (hEnd : ∀ listed : Array Bool, (∀ j, j < n → listed.getD j false = true) → ∀ w, Ph listed w → Cend w)
    (h : wpHinge P l.toArray pre post (fun a' => ∀ w', Cend w' → wpList P l.toArray Q (l.drop n) a' w') 0 (l.take n) a) : (Code.region id l.toArray true).wp P Q a w := by
  simp only [Region.lexTailB, Bool.and_eq_true, decide_eq_true_eq] at hB
  obtain ⟨⟨⟨⟨hsel, hn⟩, hs⟩, hc⟩, hlex⟩ := hB
  have hn' : n < l.length := by simpa using hn
  have htl : (l.take n).length = n := by simp; omega
  have hdl : (l.drop n).length = l.toArray.size - n := by simp
  have inv0 : HeadInv .any l.toArray n (Array.replicate l.toArray.size false) :=
    ⟨by simp, fun j oj _ hl => (by rw [getD_replicate_false] at hl; cases hl), fun t _ ht => getD_in (by simpa using ht) (getD_replicate_false _ _)⟩
  have H := wpAnyT_lex (md := .any) (g := l.toArray.size - n) hsel hs hc hn (l.take n) 0 _ a (fun j hj => by
    have hj' : j < n := by rw [htl] at hj; exact hj
    simp [hj']) (by simpa using htl) inv0 (fun j hj => by omega) (by rw [htl]; exact hlex) h
  refine wp_region_any hm ?_
  have := wpAny_of_headT (Q' := Q) (g := l.toArray.size - n) (Ph := Ph) hStep (fun listed a' w' hp hL => by
    have := wpAny_of_seq (md := .any) (Q' := Q) (l.drop n) n listed a' w' (fun j => by simp [List.getElem?_drop]) (by rw [hdl]; exact hL.1) (hL.2.2 _ (hEnd listed hL.2.1 _ hp))
    rwa [hdl] at this) _ _ _ w.drew inv0 hStart H
  rw [htl, show n + (l.toArray.size - n) = l.toArray.size by omega] at this
  exact this

/-- One class for the whole head: its operations read, its calls leave worlds of the class. -/
theorem wp_region_quiet_tail {id : Nat} {Q : Exit → Act → World → Prop} {a : Act} {w : World} {l : List Oper} (n : Nat) {C : World → Prop} (hm : P.follows .mixedOrders = true) (hB : Region.lexTailB .any l.toArray n = true) (hC : C w.drew)
    (h : wpQuiet P l.toArray C (fun a' => ∀ w', C w' → wpList P l.toArray Q (l.drop n) a' w') (l.take n) a) : (Code.region id l.toArray true).wp P Q a w :=
  wp_region_staged (pre := fun _ => C) (post := fun _ _ => C) (Ph := fun _ => C) (Cend := C) n hm hB (fun _ _ _ _ _ hp _ _ _ => ⟨hp, fun _ h => h, fun _ => hp⟩) hC (fun _ _ _ h => h) (wpHinge_rest (C := C) _ 0 a (fun _ _ => ⟨rfl, fun _ => rfl⟩) h)
end
end

/-! How arguments are opened, each text in them as long as the reach allows. Of whatever program. -/
section

open Go.ChangeShapes Go.WideShapes Go.ChangeAt Go.RowKit
section
variable {H : Type} {enc : TypeId × Value → H} {P : Program}

/-- As Flat, for data all of whose weights the reach allows. -/
def FlatW (P : Program) (T : TypeId) {α : Type} (out : α → List Value) (ok : α → Prop) : Prop :=
  ∀ {H : Type} {enc : TypeId × Value → H} {w : World} {base : Nat} {spare : Nat → Bool} {held : Bool} {fuel : Nat} {cs : List Value} {x : DataW H × List MemPlace},
    DataW.trod enc P w base spare held fuel T cs = some x → (∀ n ∈ x.1.weights P T, n ≤ 140737488351232) → ∃ y, cs = out y ∧ ok y

theorem Flat.weigh {T : TypeId} {α : Type} {out : α → List Value} {ok : α → Prop} (g : Flat P T out ok) : FlatW P T out ok := fun hx _ => g hx
theorem FlatW.str {T : TypeId} (h : P.underlying T = some .string) : FlatW P T (fun s : ByteArray => [.string s]) (fun s => s.size ≤ 140737488351232) := by
  intro _ _ _ _ _ _ _ _ _ hx hw
  obtain ⟨n, h1, rfl, h2⟩ := DataW.trod_string h hx
  refine ⟨n, h1, ?_⟩
  have e : n.data.toList.length = n.size := by rw [Array.length_toList]; rfl
  have := hw n.data.toList.length (by simp [DataW.weights])
  omega

def FlatFsW (P : Program) (fs : List Field) (off total : Nat) {α : Type} (out : α → List Value) (ok : α → Prop) : Prop :=
  ∀ {H : Type} {enc : TypeId × Value → H} {w : World} {base : Nat} {spare : Nat → Bool} {held : Bool} {n : Nat} {cs : List Value} {xs : List (DataW H × List MemPlace)},
    cs.length = total → xs.length = fs.length → (∀ (i : Nat) (f : Field), fs[i]? = some f → DataW.trod enc P w base spare held n f.type ((cs.drop f.offset).take (P.cellsOf f.type)) = xs[i]?) →
    (∀ m ∈ DataW.weightsEach P (fs.map (·.type)) (xs.map (·.1)), m ≤ 140737488351232) → ∃ y, cs.drop off = out y ∧ ok y
theorem FlatFsW.last {f : Field} {off total : Nat} {α : Type} {o : α → List Value} {k : α → Prop} (g : FlatW P f.type o k) (z : f.offset = off) (z2 : off + P.cellsOf f.type = total) : FlatFsW P [f] off total o k := by
  intro _ _ _ _ _ _ _ cs xs hl hx hf hw
  have e0 := hf 0 f rfl
  match xs, hx with
  | [y0], hx =>
    rw [z] at e0
    obtain ⟨a, ha, ka⟩ := g e0 (fun n hn => hw n (by simp [DataW.weightsEach, hn]))
    rw [List.take_of_length_le (by rw [List.length_drop]; omega)] at ha
    exact ⟨a, ha, ka⟩
theorem FlatFsW.cons {f : Field} {fs : List Field} {off total : Nat} {α β : Type} {o0 : α → List Value} {k0 : α → Prop} {o1 : β → List Value} {k1 : β → Prop} (g : FlatW P f.type o0 k0) (z : f.offset = off)
    (gs : FlatFsW P fs (off + P.cellsOf f.type) total o1 k1) : FlatFsW P (f :: fs) off total (fun y : α × β => o0 y.1 ++ o1 y.2) (fun y => k0 y.1 ∧ k1 y.2) := by
  intro _ _ _ _ _ _ _ cs xs hl hx hf hw
  have e0 := hf 0 f rfl
  match xs, hx with
  | x0 :: xs, hx =>
    obtain ⟨a, ha, ka⟩ := g e0 (fun n hn => hw n (by simp [DataW.weightsEach, hn]))
    obtain ⟨b, hb, kb⟩ := gs hl (by simpa using hx) (fun i f' hi => hf (i + 1) f' hi) (fun n hn => hw n (by simp [DataW.weightsEach]; exact .inr (by simpa using hn)))
    refine ⟨(a, b), ?_, ka, kb⟩
    show _ = o0 a ++ o1 b
    rw [← ha, ← hb, z, ← List.drop_drop, List.take_append_drop]
theorem FlatW.struct {T : TypeId} {fs : Array Field} {α : Type} {o : α → List Value} {k : α → Prop} (h : P.underlying T = some (.struct fs)) (g : FlatFsW P fs.toList 0 (P.cellsOf T) o k) : FlatW P T o k := by
  intro _ _ _ _ _ _ _ cs _ hx hw
  obtain ⟨xs, n, _, rfl, hl, hxs, hf⟩ := DataW.trod_struct h hx
  obtain ⟨y, hy, ky⟩ := g hl (by simpa using hxs) (fun i f hi => hf i f (by simpa using hi)) (fun m hm => hw m (by
    unfold DataW.weights
    rw [h]
    exact hm))
  exact ⟨y, by simpa using hy, ky⟩
theorem FlatW.iso {T : TypeId} {α β : Type} {o : α → List Value} {k : α → Prop} {o' : β → List Value} {k' : β → Prop} (g : FlatW P T o k) (f : α → β) (h : ∀ x, k x → o x = o' (f x) ∧ k' (f x)) : FlatW P T o' k' := by
  intro _ _ _ _ _ _ _ cs _ hx hw
  obtain ⟨y, hy, ky⟩ := g hx hw
  exact ⟨f y, by rw [hy]; exact (h y ky).1, (h y ky).2⟩

theorem weights_mem_all {E : TypeId} : ∀ {ds : List (DataW H)} {d : DataW H} {n : Nat}, d ∈ ds → n ∈ d.weights P E → n ∈ DataW.weightsAll P E ds
  | x :: ds, d, n, hd, hn => by
    unfold DataW.weightsAll
    rcases List.mem_cons.1 hd with h | h
    · subst h
      exact List.mem_append_left _ hn
    · exact List.mem_append_right _ (weights_mem_all h hn)

theorem open_rowW {T E : TypeId} {α : Type} {out : α → List Value} {ok : α → Prop} (g : FlatW P E out ok) (ht : P.underlying T = some (.slice E)) (hpos : 0 < P.cellsOf E) {w : World} {a : Option Addr} {len cap base : Nat} {spare : Nat → Bool} {held : Bool} {d : DataW H} {p : List MemPlace}
    (hr : DataW.Trod enc P w base spare held T (.slice a len cap) d p) (hw : ∀ n ∈ d.weights P T, n ≤ 140737488351232) : ∃ xs : List α, xs.length = len ∧ len ≤ cap ∧ cap ≤ maxLen ∧ RowAt w a (P.cellsOf E) out xs ∧ ∀ x ∈ xs, ok x := by
  obtain ⟨fuel, hf⟩ := hr
  rcases DataW.trod_slice ht hf with ⟨hcs, _⟩ | ⟨a', len', cap', elems, rest, n, _, hcs, hd, _, hl, hm, he, hcells, _⟩
  · simp [Value.cells] at hcs
    obtain ⟨rfl, rfl, rfl⟩ := hcs
    exact ⟨[], rfl, Nat.le_refl _, by simp [maxLen], fun i x h => by simp at h, fun x h => by simp at h⟩
  · simp [Value.cells] at hcs
    obtain ⟨rfl, rfl, rfl⟩ := hcs
    simp at hd
    obtain ⟨rfl, _⟩ := hd
    have hz : ∀ i, i < len → ∃ x : α, ok x ∧ (out x).length = P.cellsOf E ∧ ∀ j v, (out x)[j]? = some v → w.cell? ((a'.add (i * P.cellsOf E)).add j) = some v := by
      intro i hi
      have h1 := hcells i hi
      rw [List.getElem?_eq_getElem (by omega)] at h1
      obtain ⟨cs, hcs, hx⟩ := Option.bind_eq_some_iff.1 h1
      obtain ⟨hl2, hc2⟩ := cells?_get hcs
      obtain ⟨y, rfl, hy⟩ := g hx (fun m hm => hw m (by
        unfold DataW.weights
        rw [ht]
        exact List.mem_cons_of_mem _ (List.mem_append_left _ (weights_mem_all (List.mem_map_of_mem (List.getElem_mem _)) hm))))
      exact ⟨y, hy, hl2, hc2⟩
    obtain ⟨xs, hxl, hxs⟩ := list_of_each len hz
    refine ⟨xs, hxl, hl, hm, fun i x hx => ?_, fun x hx => ?_⟩
    · have hlen : 0 < len := by have := (List.getElem?_eq_some_iff.1 hx).1; omega
      obtain ⟨x0, hx0⟩ : ∃ x0, xs[0]? = some x0 := ⟨_, List.getElem?_eq_getElem (by omega)⟩
      obtain ⟨_, hl0, hc0⟩ := hxs 0 x0 hx0
      obtain ⟨v0, hv0⟩ : ∃ v0, (out x0)[0]? = some v0 := ⟨_, List.getElem?_eq_getElem (by omega)⟩
      have hc := hc0 0 v0 hv0
      simp only [Nat.zero_mul, Addr.add, if_true] at hc
      obtain ⟨ha, hlt⟩ := cell_spot hc
      refine ⟨a'.block, a'.off, by rw [← ha], hlt, fun j v hv => ?_⟩
      have h2 := (hxs i x hx).2.2 j v hv
      have hadd : ∀ k, a'.add k = ⟨a'.block, a'.off + k, none⟩ := by
        intro k
        unfold Addr.add
        split
        · rename_i h0; rw [ha, h0]; rfl
        · rfl
      rw [hadd] at h2
      unfold Addr.add at h2
      split at h2
      · rename_i h0; rw [h0]; exact h2
      · simpa [Nat.add_assoc] using h2
    · obtain ⟨i, hi, rfl⟩ := List.getElem_of_mem hx
      exact (hxs i _ (List.getElem?_eq_getElem hi)).1

/-- An argument's weights. -/
theorem arg_weights {ts : List TypeId} {ds : List (DataW H)} (h : (DataW.weightsEach P ts ds).all (· ≤ reachBytes) = true) {j : Nat} {T : TypeId} {d : DataW H} (ht : ts[j]? = some T) (hd : ds[j]? = some d) : ∀ n ∈ d.weights P T, n ≤ 140737488351232 := by
  intro n hn
  have := List.all_eq_true.1 h n (DataW.weights_mem_each ht hd n hn)
  exact of_decide_eq_true this
end
end
end Go.Proofs.Ythknfikjanoflaa
