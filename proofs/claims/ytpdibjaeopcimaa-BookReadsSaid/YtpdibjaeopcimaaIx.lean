/- index in memory: rows that are read; the index's blocks, each of a colour of its own. -/
import Derived.Test.YtpdibjaeopcimaaIKey
import Derived.Test.YtpdibjaeopcimaaOff
import Derived.Test.YtpdibjaeopcimaaIp
set_option linter.unusedVariables false
set_option linter.unusedSimpArgs false
namespace Go.Proofs.Ytpdibjaeopcimaa
open Go.RowKit

section
variable {α : Type}
/-- A row that is read: its elements' cells lie in blocks of S. -/
def VRow (S : Nat → Prop) (sz : Nat) (out : α → List Value) (w : World) (v : Value) (xs : List α) : Prop :=
  ∃ a cap, v = .slice a xs.length cap ∧ xs.length ≤ cap ∧ cap ≤ maxLen ∧ ∀ (i : Nat) x, xs[i]? = some x → ∃ b off, a = some ⟨b, off, none⟩ ∧ b < w.heap.size ∧ S b ∧ ∀ (j : Nat) u, (out x)[j]? = some u → w.cell? ⟨b, off + (i * sz + j), none⟩ = some u
variable {S S' : Nat → Prop} {sz : Nat} {out : α → List Value} {w w1 : World} {v : Value} {xs : List α}
theorem VRow.ch (h : VRow S sz out w v xs) (hc : Ch S' w w1) (hs : ∀ k, S k → ¬ S' k) : VRow S sz out w1 v xs := by
  obtain ⟨a, cap, h1, h2, h3, h4⟩ := h
  refine ⟨a, cap, h1, h2, h3, fun i x hx => ?_⟩
  obtain ⟨b, off, e, hb, hS, hc2⟩ := h4 i x hx
  refine ⟨b, off, e, Nat.lt_of_lt_of_le hb hc.size, hS, fun j u hu => ?_⟩
  rw [World.cell?_of_block (w := w) (w' := w1) (a := ⟨b, _, none⟩) (hc.block b hb (hs b hS))]
  exact hc2 j u hu
theorem VRow.below (h : VRow S sz out w v xs) (hb : Below w.heap.size w w1) : VRow S sz out w1 v xs := h.ch (Ch.of_below (fun _ => False) hb) (fun _ _ => id)
theorem VRow.mono (h : VRow S sz out w v xs) (hs : ∀ k, k < w.heap.size → S k → S' k) : VRow S' sz out w v xs := by
  obtain ⟨a, cap, h1, h2, h3, h4⟩ := h
  refine ⟨a, cap, h1, h2, h3, fun i x hx => ?_⟩
  obtain ⟨b, off, e, hb, hS, hc2⟩ := h4 i x hx
  exact ⟨b, off, e, hb, hs b hb hS, hc2⟩
theorem VRow.at (h : VRow S sz out w v xs) {i : Nat} {x : α} (hi : xs[i]? = some x) : ∃ g off cap, v = .slice (some ⟨g, off, none⟩) xs.length cap ∧ ∀ (j : Nat) u, (out x)[j]? = some u → w.cell? ⟨g, off + (i * sz + j), none⟩ = some u := by
  obtain ⟨a, cap, h1, h2, h3, h4⟩ := h
  obtain ⟨b, off, e, _, _, hc2⟩ := h4 i x hi
  exact ⟨b, off, cap, by rw [h1, e], hc2⟩
theorem VRow.slice (h : VRow S sz out w v xs) : ∃ a cap, v = .slice a xs.length cap ∧ xs.length ≤ cap ∧ cap ≤ maxLen := by
  obtain ⟨a, cap, h1, h2, h3, _⟩ := h
  exact ⟨a, cap, h1, h2, h3⟩
theorem VRow.nil (S : Nat → Prop) (w : World) : VRow S sz out w (.slice none 0 0) ([] : List α) := ⟨none, 0, rfl, Nat.le_refl _, by simp [maxLen], fun i x h => by simp at h⟩
theorem VRow.empty (S : Nat → Prop) (w : World) (a : Option Addr) (cap : Nat) (h : cap ≤ maxLen) : VRow S sz out w (.slice a 0 cap) ([] : List α) := ⟨a, cap, rfl, Nat.zero_le _, h, fun i x h => by simp at h⟩
theorem VRow.of_own (hout : ∀ x : α, (out x).length = sz) {base : Nat} (h : ORow sz out w base v xs) (hs : ∀ g, v.ownBlock = some g → S g) : VRow S sz out w v xs := by
  obtain ⟨a, cap, h1, h2, h3⟩ := h.slice
  refine ⟨a, cap, h1, h2, h3, fun i x hx => ?_⟩
  obtain ⟨g, off, cap', e, hat⟩ := h.at hout hx
  rw [h1] at e
  injection e with e1 e2 e3
  have hv : v.ownBlock = some g := by rw [h1, e1]; rfl
  exact ⟨g, off, e1, (h.own hv).2, hs g hv, hat⟩
/-- v[k:]. -/
def cutV (sz : Nat) (v : Value) (k : Nat) : Value := match v with
  | .slice a len cap => .slice (if cap = k then a else a.map (·.add (k * sz))) (len - k) (cap - k)
  | v => v
theorem VRow.drop (h : VRow S sz out w v xs) {k : Nat} (hk : k ≤ xs.length) : VRow S sz out w (cutV sz v k) (xs.drop k) := by
  obtain ⟨a, cap, rfl, h2, h3, h4⟩ := h
  refine ⟨if cap = k then a else a.map (·.add (k * sz)), cap - k, by simp [cutV], by simp; omega, by omega, fun i x hx => ?_⟩
  rw [List.getElem?_drop] at hx
  obtain ⟨b, off, e, hb, hS, hc2⟩ := h4 (k + i) x hx
  have hl := (List.getElem?_eq_some_iff.1 hx).1
  rw [if_neg (by omega), e]
  refine ⟨b, off + k * sz, ?_, hb, hS, fun j u hu => ?_⟩
  · simp only [Option.map_some]
    rw [Addr.add_mid]
  · have := hc2 j u hu
    rw [show off + k * sz + (i * sz + j) = off + ((k + i) * sz + j) by rw [Nat.add_mul]; omega]
    exact this
theorem VRow.drop' (h : VRow S sz out w v xs) {k : Nat} (hk : k ≤ xs.length) {ys : List α} (hy : xs.drop k = ys) : VRow S sz out w (cutV sz v k) ys := hy ▸ h.drop hk
end
/-- The slice expression. -/
theorem run_slice_from {P : Program} {w : World} {t e : TypeId} (hu : P.underlying t = some (.slice e)) {sz : Nat} (hi : (sizeOf e).run P w = .ok sz w) (a : Option Addr) (len cap k : Nat) (hk : k ≤ len) :
    (Instr.slice t (.slice a len cap) (some (.int .i64 (k : Nat))) none none).run P w = .ok (cutV sz (.slice a len cap) k) w := by
  simp [Instr.slice, run_underlying hu, Instr.sliceBounds, Instr.sliceBound, go_sem, hi, hk, cutV, Result.andThen]

def natO (n : Nat) : List Value := [.int .i64 (n : Nat)]
def intO (n : Int) : List Value := [.int .i64 n]
def plO (s : Pl) : List Value := [.int .i64 s.1, .int .i64 s.2]
def rwO (p : Rw × Value) : List Value := [.int .i64 p.1.pl.1, .int .i64 p.1.pl.2, .int .i64 p.1.r.id.1, .int .i64 p.1.r.id.2, p.2, .string p.1.r.data]
theorem natO_len (n : Nat) : (natO n).length = 1 := rfl
theorem intO_len (n : Int) : (intO n).length = 1 := rfl
theorem plO_len (s : Pl) : (plO s).length = 2 := rfl
theorem rwO_len (p : Rw × Value) : (rwO p).length = 6 := rfl
theorem getA_map {α β γ : Type} [DecidableEq α] (f : β → γ) (a : α) : ∀ l : List (α × β), getA a (l.map fun p => (p.1, f p.2)) = (getA a l).map f
  | [] => rfl
  | p :: l => by
    simp only [List.map_cons, getA]
    split
    · rfl
    · exact getA_map f a l

/-- The rows. -/
structure RowsX (c : Nat → Nat) (w : World) (rv : Value) (rws : List (Rw × Value)) (rows : List Rw) : Prop where
  row : ORow 6 rwO w 0 rv rws
  own : ∀ g, rv.ownBlock = some g → c g = 2
  fst : rws.map (·.1) = rows
  tgs : ∀ p ∈ rws, VRow (fun k => c k = 7) 1 intO w p.2 p.1.r.tags
/-- The numbers of the rows, by tags. -/
def GroupsX (c : Nat → Nat) (w : World) (mt : Nat) (f : Int → List Nat) : Prop :=
  c mt = 3 ∧ ∃ tl : List (Int × (Value × List Nat)), MapB w mt (Value.int .i64) Prod.fst tl ∧ (∀ t, ((getA t tl).map (·.2)).getD [] = f t) ∧ (∀ p ∈ tl, ORow 1 natO w 0 p.2.1 p.2.2 ∧ ∀ g, p.2.1.ownBlock = some g → c g = 6) ∧ tl.Pairwise fun p q => ∀ g, p.2.1.ownBlock = some g → q.2.1.ownBlock ≠ some g
def idsL (rows : List Rw) : List (Pl × Pl) := rows.map fun r => (r.r.id, r.pl)
/-- An index in memory: its struct x. -/
structure IxL (c : Nat → Nat) (w : World) (x : Nat) (rv : Value) (mt mi mm : Nat) (rws : List (Rw × Value)) (f : Int → List Nat) (ids : List (Pl × Pl)) (st : XSt) : Prop where
  box : Blk w x #[rv, .map (some mt), .map (some mi), .map (some mm), .int .i64 st.last.1, .int .i64 st.last.2, .int .i64 (st.applied : Nat)] 96
  cx : c x = 1
  rows : RowsX c w rv rws st.rows
  grp : GroupsX c w mt f
  ids : MapB w mi plV plV ids
  ci : c mi = 4
  trs : MapB w mm (Value.int .i64) plV st.tr
  cm : c mm = 5

section
variable {c c2 : Nat → Nat} {S : Nat → Prop} {w w1 : World} {x : Nat} {rv : Value} {mt mi mm : Nat} {rws : List (Rw × Value)} {f : Int → List Nat} {ids : List (Pl × Pl)} {st : XSt} {rows : List Rw}
theorem RowsX.ch (h : RowsX c w rv rws rows) (hc : Ch S w w1) (hs : ∀ k, S k → c k ≠ 2 ∧ c k ≠ 7) : RowsX c w1 rv rws rows :=
  ⟨h.row.ch hc (fun g e hg => (hs g hg).1 (h.own g e)), h.own, h.fst, fun p hp => (h.tgs p hp).ch hc (fun k hk hS => (hs k hS).2 hk)⟩
theorem RowsX.re (h : RowsX c w rv rws rows) (hc : ∀ k, k < w.heap.size → c2 k = c k) : RowsX c2 w rv rws rows :=
  ⟨h.row, fun g e => by rw [hc g (h.row.own e).2]; exact h.own g e, h.fst, fun p hp => (h.tgs p hp).mono fun k hk e => by rw [hc k hk]; exact e⟩
theorem GroupsX.ch (h : GroupsX c w mt f) (hc : Ch S w w1) (hs : ∀ k, S k → c k ≠ 3 ∧ c k ≠ 6) : GroupsX c w1 mt f := by
  obtain ⟨h0, tl, h1, h2, h3, h4⟩ := h
  exact ⟨h0, tl, h1.ch hc (fun e => (hs _ e).1 h0), h2, fun p hp => ⟨(h3 p hp).1.ch hc (fun g e hg => (hs g hg).2 ((h3 p hp).2 g e)), (h3 p hp).2⟩, h4⟩
theorem GroupsX.re (h : GroupsX c w mt f) (hc : ∀ k, k < w.heap.size → c2 k = c k) : GroupsX c2 w mt f := by
  obtain ⟨h0, tl, h1, h2, h3, h4⟩ := h
  exact ⟨by rw [hc _ h1.lt]; exact h0, tl, h1, h2, fun p hp => ⟨(h3 p hp).1, fun g e => by rw [hc g ((h3 p hp).1.own e).2]; exact (h3 p hp).2 g e⟩, h4⟩
theorem GroupsX.lt (h : GroupsX c w mt f) : mt < w.heap.size := by
  obtain ⟨h0, tl, h1, h2, h3, h4⟩ := h
  exact h1.lt
theorem IxL.ch (h : IxL c w x rv mt mi mm rws f ids st) (hc : Ch S w w1) (hs : ∀ k, S k → c k = 0) : IxL c w1 x rv mt mi mm rws f ids st :=
  ⟨h.box.ch hc (fun e => by have := hs _ e; rw [h.cx] at this; cases this), h.cx, h.rows.ch hc (fun k e => by rw [hs k e]; decide), h.grp.ch hc (fun k e => by rw [hs k e]; decide),
    h.ids.ch hc (fun e => by have := hs _ e; rw [h.ci] at this; cases this), h.ci, h.trs.ch hc (fun e => by have := hs _ e; rw [h.cm] at this; cases this), h.cm⟩
theorem IxL.below (h : IxL c w x rv mt mi mm rws f ids st) (hb : Below w.heap.size w w1) : IxL c w1 x rv mt mi mm rws f ids st := h.ch (Ch.of_below (fun _ => False) hb) (fun _ => False.elim)
theorem IxL.re (h : IxL c w x rv mt mi mm rws f ids st) (hc : ∀ k, k < w.heap.size → c2 k = c k) : IxL c2 w x rv mt mi mm rws f ids st :=
  ⟨h.box, by rw [hc _ h.box.lt]; exact h.cx, h.rows.re hc, h.grp.re hc, h.ids, by rw [hc _ h.ids.lt]; exact h.ci, h.trs, by rw [hc _ h.trs.lt]; exact h.cm⟩
end

/-- An index that a call holds: no block of G is its own. -/
def Ix (G : Nat → Prop) (w : World) (x : Nat) (st : XSt) : Prop :=
  ∃ c rv mt mi mm rws, IxL c w x rv mt mi mm rws (fun t => numsF t 0 st.rows) (idsL st.rows) st ∧ ∀ k, G k → k < w.heap.size ∧ c k = 0
section
variable {G G' S : Nat → Prop} {w w1 : World} {x : Nat} {st : XSt}
theorem Ix.ch (h : Ix G w x st) (hc : Ch S w w1) (hs : ∀ k, S k → G k) : Ix (fun k => G k ∨ (w.heap.size ≤ k ∧ k < w1.heap.size)) w1 x st := by
  obtain ⟨c, rv, mt, mi, mm, rws, h1, h2⟩ := h
  refine ⟨fun k => if k < w.heap.size then c k else 0, rv, mt, mi, mm, rws, ?_, fun k hk => ?_⟩
  · have h3 := h1.re (c2 := fun k => if k < w.heap.size then c k else 0) (fun k hk => if_pos hk)
    exact h3.ch hc (fun k e => by have := h2 k (hs k e); rw [if_pos this.1]; exact this.2)
  · rcases hk with hk | hk
    · have := h2 k hk
      exact ⟨Nat.lt_of_lt_of_le this.1 hc.size, (if_pos this.1).trans this.2⟩
    · exact ⟨hk.2, if_neg (by omega)⟩
theorem Ix.mono (h : Ix G w x st) (hs : ∀ k, G' k → G k) : Ix G' w x st := by
  obtain ⟨c, rv, mt, mi, mm, rws, h1, h2⟩ := h
  exact ⟨c, rv, mt, mi, mm, rws, h1, fun k hk => h2 k (hs k hk)⟩
theorem Ix.below (h : Ix G w x st) (hb : Below w.heap.size w w1) : Ix (fun k => G k ∨ (w.heap.size ≤ k ∧ k < w1.heap.size)) w1 x st := h.ch (Ch.of_below (fun _ => False) hb) (fun _ => False.elim)
theorem Ix.below' (h : Ix G w x st) (hb : Below w.heap.size w w1) : Ix G w1 x st := (h.below hb).mono fun _ e => .inl e
end
end Go.Proofs.Ytpdibjaeopcimaa
