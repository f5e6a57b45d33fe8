/- Maps of one's own: a block that holds an association list; what a look-up and a store do to it. -/
import Derived.Test.YtpdibjaeopcimaaBase
import Derived.MapKept
import Derived.Maps.OwnOps
set_option linter.unusedVariables false
set_option linter.unusedSimpArgs false
namespace Go.Proofs.Ytpdibjaeopcimaa
open Go.RowKit
open Go.MapKept (heap_set run_findKey run_keyThatStays run_checkKey run_setObj_map)

section
variable {P : Program} {α β : Type}

/-- Block b is a map of these entries. -/
def MapB (w : World) (b : Nat) (key : α → Value) (out : β → Value) (l : List (α × β)) : Prop :=
  ∃ es clock, w.heap[b]? = some (.map es clock) ∧ es.toList.map (fun x => (x.key, x.val)) = l.map fun p => (key p.1, out p.2)
theorem MapB.lt {w : World} {b : Nat} {key : α → Value} {out : β → Value} {l : List (α × β)} (h : MapB w b key out l) : b < w.heap.size := by
  obtain ⟨es, c, h1, _⟩ := h
  exact (Array.getElem?_eq_some_iff.1 h1).1
theorem MapB.ch {S : Nat → Prop} {w w1 : World} {b : Nat} {key : α → Value} {out : β → Value} {l : List (α × β)} (h : MapB w b key out l) (hc : Ch S w w1) (hn : ¬ S b) : MapB w1 b key out l := by
  have hlt := h.lt
  obtain ⟨es, c, h1, h2⟩ := h
  exact ⟨es, c, (hc.block b hlt hn).trans h1, h2⟩
theorem MapB.below {w w1 : World} {b : Nat} {key : α → Value} {out : β → Value} {l : List (α × β)} (h : MapB w b key out l) (hb : Below w.heap.size w w1) : MapB w1 b key out l := h.ch (Ch.of_below (fun _ => False) hb) id
theorem MapB.new (w : World) (key : α → Value) (out : β → Value) : MapB (w.alloc (.map #[] 0)) w.heap.size key out [] := ⟨#[], 0, heap_alloc_new w _, rfl⟩

variable [DecidableEq α]
/-- The first entry of a key: its number, its value. -/
def findA (a : α) : List (α × β) → Nat → Option (Nat × β)
  | [], _ => none
  | p :: l, i => if p.1 = a then some (i, p.2) else findA a l (i + 1)
def getA (a : α) : List (α × β) → Option β
  | [] => none
  | p :: l => if p.1 = a then some p.2 else getA a l
def putA (a : α) (c : β) : List (α × β) → List (α × β)
  | [] => [(a, c)]
  | p :: l => if p.1 = a then (a, c) :: l else p :: putA a c l
theorem findA_get (a : α) : ∀ (l : List (α × β)) (i : Nat), (findA a l i).map (·.2) = getA a l
  | [], _ => rfl
  | p :: l, i => by
    unfold findA getA
    split
    · rfl
    · exact findA_get a l (i + 1)
theorem findA_at (a : α) : ∀ (l : List (α × β)) (i j : Nat) (c : β), findA a l i = some (j, c) → ∃ k, j = i + k ∧ k < l.length ∧ (l[k]?).map (·.1) = some a ∧ ∀ c', putA a c' l = l.set k (a, c')
  | [], _, _, _, h => by simp [findA] at h
  | p :: l, i, j, c, h => by
    unfold findA at h
    split at h
    · rename_i hp
      cases h
      exact ⟨0, rfl, by simp, by simp [hp], fun c' => by simp [putA, hp]⟩
    · rename_i hp
      obtain ⟨k, h1, h2, h3, h4⟩ := findA_at a l (i + 1) j c h
      exact ⟨k + 1, by omega, by simpa using h2, by simpa using h3, fun c' => by rw [putA, if_neg hp, h4]; rfl⟩
theorem findA_none (a : α) : ∀ (l : List (α × β)) (i : Nat), findA a l i = none → ∀ c, putA a c l = l ++ [(a, c)]
  | [], _, _, c => rfl
  | p :: l, i, h, c => by
    unfold findA at h
    split at h
    · cases h
    · rename_i hp
      rw [putA, if_neg hp, findA_none a l (i + 1) h c]
      rfl
theorem getA_put (a : α) (c : β) : ∀ (l : List (α × β)) (a' : α), getA a' (putA a c l) = if a' = a then some c else getA a' l
  | [], a' => by
    by_cases h : a = a'
    · simp [putA, getA, h]
    · simp [putA, getA, h, Ne.symm h]
  | p :: l, a' => by
    unfold putA
    by_cases hp : p.1 = a
    · rw [if_pos hp]
      by_cases h : a = a'
      · simp [getA, h]
      · rw [if_neg (Ne.symm h)]
        simp only [getA]
        rw [if_neg h, if_neg (by rw [hp]; exact h)]
    · rw [if_neg hp]
      simp only [getA]
      by_cases h2 : p.1 = a'
      · rw [if_pos h2, if_neg (by rintro rfl; exact hp h2), if_pos h2]
      · rw [if_neg h2, if_neg h2]
        exact getA_put a c l a'
theorem putA_len (a : α) (c : β) : ∀ (l : List (α × β)), (putA a c l).length ≤ l.length + 1
  | [] => by simp [putA]
  | p :: l => by
    unfold putA
    split
    · simp
    · have := putA_len a c l
      simp only [List.length_cons]
      omega

/-- What the laws ask of a key's type. -/
structure KeyT (P : Program) (kt : TypeId) (key : α → Value) : Prop where
  check : ∀ (e : Bool) (a : α) (w : World), (Instr.checkKey e 10000 kt (key a)).run P w = .ok () w
  find : ∀ (a : α) (es : List MapEntry) (ks : List α) (w : World), es.map (·.key) = ks.map key → (Instr.findKey kt (key a) es).run P w = .ok ((findA a (ks.zip (es.map (·.val))) 0)) w
  stays : ∀ (a : α) (w : World), (Instr.keyThatStays (key a) (key a)).run P w = .ok (key a) w

theorem findA_zip (a : α) (key : α → Value) (out : β → Value) : ∀ (l : List (α × β)) (es : List MapEntry) (i : Nat), es.map (fun x => (x.key, x.val)) = l.map (fun p => (key p.1, out p.2)) → findA a ((l.map (·.1)).zip (es.map (·.val))) i = (findA a l i).map fun p => (p.1, out p.2)
  | [], [], i, _ => rfl
  | [], _ :: _, _, h => by simp at h
  | _ :: _, [], _, h => by simp at h
  | p :: l, x :: es, i, h => by
    simp only [List.map_cons, List.cons.injEq, Prod.mk.injEq] at h
    obtain ⟨⟨h1, h2⟩, h3⟩ := h
    simp only [List.map_cons, List.zip_cons_cons, findA]
    split
    · simp [h2]
    · exact findA_zip a key out l es (i + 1) h3

theorem MapB.findKey {kt : TypeId} {key : α → Value} (K : KeyT P kt key) {out : β → Value} {l : List (α × β)} {es : Array MapEntry} (h : es.toList.map (fun x => (x.key, x.val)) = l.map fun p => (key p.1, out p.2)) (a : α) (w : World) :
    (Instr.findKey kt (key a) es.toList).run P w = .ok ((findA a l 0).map fun p => (p.1, out p.2)) w := by
  have h1 : es.toList.map (·.key) = (l.map (·.1)).map key := by
    have := congrArg (List.map (·.1)) h
    simpa [List.map_map, Function.comp_def] using this
  rw [K.find a es.toList (l.map (·.1)) w h1, findA_zip a key out l es.toList 0 h]

/-- The look-up's value. -/
def lookV (out : β → Value) (z : Value) (o : Option β) (ok : Bool) : Value := if ok then .tuple #[(o.map out).getD z, .bool o.isSome] else (o.map out).getD z
theorem MapB.look {w : World} {b : Nat} {key : α → Value} {out : β → Value} {l : List (α × β)} (h : MapB w b key out l) {t kt et : TypeId} (K : KeyT P kt key) (ht : P.underlying t = some (.map kt et)) {z : Value} (hz : (zeroValue et).run P w = .ok z w) (a : α) (ok : Bool) :
    (Instr.lookup t (.map (some b)) (key a) ok).run P w = .ok (lookV out z (getA a l) ok) w := by
  obtain ⟨es, c, h1, h2⟩ := h
  have hf := MapB.findKey K h2 a w
  rw [← findA_get a l 0]
  unfold lookV
  cases hq : findA a l 0 with
  | none =>
    rw [hq] at hf
    simp [Instr.lookup, run_underlying ht, MapKept.run_getObj_map h1, K.check, hf, hz, Result.andThen]
  | some p =>
    rw [hq] at hf
    simp [Instr.lookup, run_underlying ht, MapKept.run_getObj_map h1, K.check, hf, Result.andThen]

/-- A store. -/
theorem MapB.store {w : World} {b : Nat} {key : α → Value} {out : β → Value} {l : List (α × β)} (h : MapB w b key out l) {t kt et : TypeId} (K : KeyT P kt key) (ht : P.underlying t = some (.map kt et)) (a : α) (c : β) :
    ∃ w', (Instr.mapUpdate t (.map (some b)) (key a) (out c)).run P w = .ok () w' ∧ MapB w' b key out (putA a c l) ∧ Ch (· = b) w w' ∧ w'.heap.size = w.heap.size := by
  obtain ⟨es, ck, h1, h2⟩ := h
  have hf := MapB.findKey K h2 a w
  have hset : ∀ o, Ch (· = b) w { w with heap := w.heap.setIfInBounds b o } := fun o => ⟨rfl, rfl, rfl, by simp, fun k hk hn => (heap_set h1).2 k hn⟩
  cases hq : findA a l 0 with
  | none =>
    rw [hq] at hf
    refine ⟨_, by simp [Instr.mapUpdate, run_underlying ht, MapKept.run_getObj_map h1, K.check, hf, run_setObj_map _ h1, Result.andThen]; rfl, ⟨_, _, (heap_set h1).1, ?_⟩, hset _, by simp⟩
    rw [findA_none a l 0 hq c]
    simp [h2]
  | some p =>
    obtain ⟨j, c0⟩ := p
    rw [hq] at hf
    obtain ⟨k, hj, hk, hka, hput⟩ := findA_at a l 0 j c0 hq
    obtain rfl : j = k := by omega
    have hl : es.toList.length = l.length := by simpa using congrArg List.length h2
    obtain ⟨x, hx⟩ : ∃ x, es[j]? = some x := ⟨_, Array.getElem?_eq_getElem (by rw [Array.length_toList] at hl; omega)⟩
    have hxk : x.key = key a := by
      have h3 := congrArg (fun r => r[j]?) h2
      simp only [List.getElem?_map, Array.getElem?_toList, hx, Option.map_some] at h3
      obtain ⟨q, hq2⟩ : ∃ q, l[j]? = some q := ⟨_, List.getElem?_eq_getElem hk⟩
      rw [hq2] at h3 hka
      simp at h3 hka
      rw [h3.1, hka]
    refine ⟨_, by simp [Instr.mapUpdate, run_underlying ht, MapKept.run_getObj_map h1, K.check, hf, hx, hxk, K.stays, run_setObj_map _ h1, Result.andThen]; rfl, ⟨_, _, (heap_set h1).1, ?_⟩, hset _, by simp⟩
    rw [hput c]
    apply List.ext_getElem?
    intro i
    have h4 := congrArg (fun r => r[i]?) h2
    simp only [List.getElem?_map, Array.getElem?_toList] at h4
    simp only [List.getElem?_map, Array.getElem?_toList, Array.getElem?_modify, List.getElem?_set]
    by_cases hi : j = i
    · subst hi
      simp [hx, hk]
    · simp [hi, h4]

/-- The store at a plain region's list. -/
theorem wpList_store_map {w : World} {ops : Array Oper} {rest : List Oper} {o : Oper} {a : Act} {Q : Exit → Act → World → Prop} (hg : o.guard = none) (m x v : Operand) (t : TypeId) (hop : o.op = Op.mapUpdate t m x v)
    {b : Nat} {key : α → Value} {out : β → Value} {l : List (α × β)} {kt et : TypeId} (K : KeyT P kt key) (ht : P.underlying t = some (.map kt et)) (hm : a.eval m = .map (some b)) (h : MapB w b key out l) (k : α) (c : β) (hx : a.eval x = key k) (hv : a.eval v = out c)
    (hK : ∀ w', MapB w' b key out (putA k c l) → Ch (· = b) w w' → wpList P ops Q rest (a.put o.dst undef) w') : wpList P ops Q (o :: rest) a w := by
  refine wpList_plain hg fun K' hK' => ?_
  obtain ⟨w', hrun, r1, r2, _⟩ := h.store K ht k c
  unfold Oper.wp
  simp [execOp, hop, hm, hx, hv, hrun, Result.andThen]
  exact hK' _ _ (hK w' r1 r2)
/-- The look-up at a plain region's list. -/
theorem wpList_look_map {w : World} {ops : Array Oper} {rest : List Oper} {o : Oper} {a : Act} {Q : Exit → Act → World → Prop} (hg : o.guard = none) (m x : Operand) (t : TypeId) (ok : Bool) (hop : o.op = Op.lookup t m x ok)
    {b : Nat} {key : α → Value} {out : β → Value} {l : List (α × β)} {kt et : TypeId} (K : KeyT P kt key) (ht : P.underlying t = some (.map kt et)) {z : Value} (hz : (zeroValue et).run P w = .ok z w) (hm : a.eval m = .map (some b)) (h : MapB w b key out l) (k : α) (hx : a.eval x = key k)
    {v : Value} (hv : lookV out z (getA k l) ok = v) (hK : wpList P ops Q rest (a.put o.dst v) w) : wpList P ops Q (o :: rest) a w := by
  refine wpList_plain hg fun K' hK' => ?_
  have hrun := h.look K ht hz k ok
  rw [hv] at hrun
  unfold Oper.wp
  simp [execOp, hop, hm, hx, hrun, Result.andThen]
  exact hK' _ _ hK
end

/-- Numbers are keys. -/
theorem keyInt {P : Program} {kt : TypeId} (hk : P.underlying kt = some (.int .i64)) : KeyT P kt (Value.int .i64) where
  check e a w := run_checkKey (d := .int .i64) hk (show MapKept.IsKey (.int .i64) (.int .i64 a) from rfl) e 9999
  stays a w := run_keyThatStays (d := .int .i64) (show MapKept.IsKey (.int .i64) (.int .i64 a) from rfl)
  find := by
    intro a es ks w h
    have : ∀ (es : List MapEntry) (ks : List Int) (i : Nat), es.map (·.key) = ks.map (Value.int .i64) → Instr.findNow (.int .i64) (.int .i64 a) es i = some (findA a (ks.zip (es.map (·.val))) i) := by
      intro es
      induction es with
      | nil => intro ks i h; cases ks <;> simp_all [Instr.findNow, findA]
      | cons x es ih =>
        intro ks i h
        match ks, h with
        | k :: ks, h =>
          simp only [List.map_cons, List.cons.injEq] at h
          simp only [List.map_cons, List.zip_cons_cons, findA, Instr.findNow, h.1, Instr.sameNow, if_true]
          by_cases hka : k = a
          · simp [hka]
          · rw [if_neg hka]
            have : (a == k) = false := by simpa using (Ne.symm hka)
            rw [this]
            exact ih ks (i + 1) h.2
    exact run_findKey hk (this es ks 0 h)
end Go.Proofs.Ytpdibjaeopcimaa
