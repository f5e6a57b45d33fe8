/- How arguments are opened: from the reading of a value as data to its cells. Of whatever program. -/
import Derived.WalkKit
import Derived.ProofKit
import Derived.OpenShut
import Derived.ChangeOld
import Derived.Below
import Derived.SizedLaws
import Derived.Test.YtpdibjaeopcimaaBase
set_option linter.unusedVariables false
set_option linter.unusedSimpArgs false
namespace Go.Proofs.Ytpdibjaeopcimaa
open Go.ChangeShapes Go.WideShapes Go.ChangeAt Go.RowKit
section
variable {H : Type} {enc : TypeId × Value → H} {P : Program}

/-- Cells of type T that read as data are those of a value of α, written out by 'out', and it meets 'ok'. -/
def Flat (P : Program) (T : TypeId) {α : Type} (out : α → List Value) (ok : α → Prop) : Prop :=
  ∀ {H : Type} {enc : TypeId × Value → H} {w : World} {base : Nat} {spare : Nat → Bool} {held : Bool} {fuel : Nat} {cs : List Value} {x : DataW H × List MemPlace},
    DataW.trod enc P w base spare held fuel T cs = some x → ∃ y, cs = out y ∧ ok y

theorem Flat.int {T : TypeId} {k : IntKind} (h : P.underlying T = some (.int k)) : Flat P T (fun n : Int => [.int k n]) (fun n => (Lit.int k n).wf = true) := by
  intro _ _ _ _ _ _ _ _ _ hx
  obtain ⟨n, h1, _, h2⟩ := DataW.trod_int h hx
  exact ⟨n, h1, h2⟩
theorem Flat.bool {T : TypeId} (h : P.underlying T = some .bool) : Flat P T (fun b : Bool => [.bool b]) (fun _ => True) := by
  intro _ _ _ _ _ _ _ _ _ hx
  obtain ⟨n, h1, _⟩ := DataW.trod_bool h hx
  exact ⟨n, h1, trivial⟩
theorem Flat.str {T : TypeId} (h : P.underlying T = some .string) : Flat P T (fun s : ByteArray => [.string s]) (fun s => s.size ≤ maxLen) := by
  intro _ _ _ _ _ _ _ _ _ hx
  obtain ⟨n, h1, _, h2⟩ := DataW.trod_string h hx
  exact ⟨n, h1, h2⟩

theorem take_all {l : List Value} {n k : Nat} (h : l.length = n) (hk : n ≤ k) : l.take k = l := List.take_of_length_le (by omega)

/-- The fields from 'off' on, one behind the other. -/
def FlatFs (P : Program) (fs : List Field) (off total : Nat) {α : Type} (out : α → List Value) (ok : α → Prop) : Prop :=
  ∀ {H : Type} {enc : TypeId × Value → H} {w : World} {base : Nat} {spare : Nat → Bool} {held : Bool} {n : Nat} {cs : List Value} {xs : List (DataW H × List MemPlace)},
    cs.length = total → xs.length = fs.length → (∀ (i : Nat) (f : Field), fs[i]? = some f → DataW.trod enc P w base spare held n f.type ((cs.drop f.offset).take (P.cellsOf f.type)) = xs[i]?) →
    ∃ y, cs.drop off = out y ∧ ok y
theorem FlatFs.last {f : Field} {off total : Nat} {α : Type} {o : α → List Value} {k : α → Prop} (g : Flat P f.type o k) (z : f.offset = off) (z2 : off + P.cellsOf f.type = total) : FlatFs P [f] off total o k := by
  intro _ _ _ _ _ _ _ cs xs hl hx hf
  have e0 := hf 0 f rfl
  simp only [List.length_cons, List.length_nil] at hx
  obtain ⟨y0, hy0⟩ : ∃ y, xs[0]? = some y := ⟨_, List.getElem?_eq_getElem (by omega)⟩
  rw [hy0, z] at e0
  obtain ⟨a, ha, ka⟩ := g e0
  rw [List.take_of_length_le (by rw [List.length_drop]; omega)] at ha
  exact ⟨a, ha, ka⟩
theorem FlatFs.cons {f : Field} {fs : List Field} {off total : Nat} {α β : Type} {o0 : α → List Value} {k0 : α → Prop} {o1 : β → List Value} {k1 : β → Prop} (g : Flat P f.type o0 k0) (z : f.offset = off)
    (gs : FlatFs P fs (off + P.cellsOf f.type) total o1 k1) : FlatFs P (f :: fs) off total (fun y : α × β => o0 y.1 ++ o1 y.2) (fun y => k0 y.1 ∧ k1 y.2) := by
  intro _ _ _ _ _ _ _ cs xs hl hx hf
  have e0 := hf 0 f rfl
  match xs, hx with
  | x0 :: xs, hx =>
    obtain ⟨a, ha, ka⟩ := g e0
    obtain ⟨b, hb, kb⟩ := gs hl (by simpa using hx) (fun i f' hi => hf (i + 1) f' hi)
    refine ⟨(a, b), ?_, ka, kb⟩
    show _ = o0 a ++ o1 b
    rw [← ha, ← hb, z, ← List.drop_drop, List.take_append_drop]
theorem Flat.struct {T : TypeId} {fs : Array Field} {α : Type} {o : α → List Value} {k : α → Prop} (h : P.underlying T = some (.struct fs)) (g : FlatFs P fs.toList 0 (P.cellsOf T) o k) : Flat P T o k := by
  intro _ _ _ _ _ _ _ cs _ hx
  obtain ⟨xs, n, _, _, hl, hxs, hf⟩ := DataW.trod_struct h hx
  obtain ⟨y, hy, ky⟩ := g hl (by simpa using hxs) (fun i f hi => hf i f (by simpa using hi))
  exact ⟨y, by simpa using hy, ky⟩
theorem Flat.iso {T : TypeId} {α β : Type} {o : α → List Value} {k : α → Prop} {o' : β → List Value} {k' : β → Prop} (g : Flat P T o k) (f : α → β) (h : ∀ x, k x → o x = o' (f x) ∧ k' (f x)) : Flat P T o' k' := by
  intro _ _ _ _ _ _ _ cs _ hx
  obtain ⟨y, hy, ky⟩ := g hx
  exact ⟨f y, by rw [hy]; exact (h y ky).1, (h y ky).2⟩

/-- A row of elements of a flat type lies at a slice's address. -/
def RowAt (w : World) (a : Option Addr) (sz : Nat) {α : Type} (out : α → List Value) (xs : List α) : Prop :=
  ∀ (i : Nat) (x : α), xs[i]? = some x → ∃ b off, a = some ⟨b, off, none⟩ ∧ b < w.heap.size ∧ ∀ j v, (out x)[j]? = some v → w.cell? ⟨b, off + (i * sz + j), none⟩ = some v

theorem list_of_each {α : Type} {Q : Nat → α → Prop} : ∀ n : Nat, (∀ i, i < n → ∃ x, Q i x) → ∃ xs : List α, xs.length = n ∧ ∀ i x, xs[i]? = some x → Q i x
  | 0, _ => ⟨[], rfl, fun i x h => by simp at h⟩
  | n + 1, h => by
    obtain ⟨xs, hl, hq⟩ := list_of_each n (fun i hi => h i (by omega))
    obtain ⟨x, hx⟩ := h n (by omega)
    refine ⟨xs ++ [x], by simp [hl], fun i y hy => ?_⟩
    by_cases hi : i < n
    · rw [List.getElem?_append_left (by omega)] at hy
      exact hq i y hy
    · have hlt := (List.getElem?_eq_some_iff.1 hy).1
      simp only [List.length_append, List.length_cons, List.length_nil] at hlt
      obtain rfl : i = n := by omega
      rw [List.getElem?_append_right (by omega), hl] at hy
      simp at hy
      exact hy ▸ hx

theorem cells?_get {w : World} {base : Nat} {a : Addr} {n : Nat} {cs : List Value} (h : w.cells? base a n = some cs) : cs.length = n ∧ ∀ j v, cs[j]? = some v → w.cell? (a.add j) = some v := by
  unfold World.cells? at h
  split at h
  · have hl := mapM_some_length h
    simp only [List.length_range] at hl
    refine ⟨hl, fun j v hv => ?_⟩
    have hj : j < n := by have := (List.getElem?_eq_some_iff.1 hv).1; omega
    have := mapM_some_get h j j (by simp [hj])
    rw [this, hv]
  · cases h

theorem cell_spot {w : World} {a : Addr} {v : Value} (h : w.cell? a = some v) : a = ⟨a.block, a.off, none⟩ ∧ a.block < w.heap.size := by
  refine ⟨?_, World.block_lt_of_cell? w a h⟩
  unfold World.cell? at h
  split at h
  · split at h
    · cases h
    · rename_i hs
      rcases a with ⟨b, o, s⟩
      cases s
      · rfl
      · simp at hs
  · cases h

theorem open_row {T E : TypeId} {α : Type} {out : α → List Value} {ok : α → Prop} (g : Flat P E out ok) (ht : P.underlying T = some (.slice E)) (hpos : 0 < P.cellsOf E) {w : World} {a : Option Addr} {len cap base : Nat} {spare : Nat → Bool} {held : Bool} {d : DataW H} {p : List MemPlace}
    (hr : DataW.Trod enc P w base spare held T (.slice a len cap) d p) : ∃ xs : List α, xs.length = len ∧ len ≤ cap ∧ cap ≤ maxLen ∧ RowAt w a (P.cellsOf E) out xs ∧ ∀ x ∈ xs, ok x := by
  obtain ⟨fuel, hf⟩ := hr
  rcases DataW.trod_slice ht hf with ⟨hcs, _⟩ | ⟨a', len', cap', elems, rest, n, _, hcs, _, _, hl, hm, he, hcells, _⟩
  · simp [Value.cells] at hcs
    obtain ⟨rfl, rfl, rfl⟩ := hcs
    exact ⟨[], rfl, Nat.le_refl _, by simp [maxLen], fun i x h => by simp at h, fun x h => by simp at h⟩
  · simp [Value.cells] at hcs
    obtain ⟨rfl, rfl, rfl⟩ := hcs
    have hz : ∀ i, i < len → ∃ x : α, ok x ∧ (out x).length = P.cellsOf E ∧ ∀ j v, (out x)[j]? = some v → w.cell? ((a'.add (i * P.cellsOf E)).add j) = some v := by
      intro i hi
      have h1 := hcells i hi
      rw [List.getElem?_eq_getElem (by omega)] at h1
      obtain ⟨cs, hcs, hx⟩ := Option.bind_eq_some_iff.1 h1
      obtain ⟨hl2, hc2⟩ := cells?_get hcs
      obtain ⟨y, rfl, hy⟩ := g hx
      exact ⟨y, hy, hl2, hc2⟩
    obtain ⟨xs, hxl, hxs⟩ := list_of_each len hz
    refine ⟨xs, hxl, hl, hm, fun i x hx => ?_, fun x hx => ?_⟩
    · have hlen : 0 < len := by have := (List.getElem?_eq_some_iff.1 hx).1; omega
      obtain ⟨x0, hx0⟩ : ∃ x0, xs[0]? = some x0 := ⟨_, List.getElem?_eq_getElem (by omega)⟩
      obtain ⟨_, hl0, hc0⟩ := hxs 0 x0 hx0
      obtain ⟨v0, hv0⟩ : ∃ v0, (out x0)[0]? = some v0 := ⟨_, List.getElem?_eq_getElem (by omega)⟩
      have hc := hc0 0 v0 hv0
      simp only [Nat.zero_mul, Addr.add, if_true] at hc
      obtain ⟨ha, hlt⟩ := cell_spot hc
      refine ⟨a'.block, a'.off, by rw [← ha], hlt, fun j v hv => ?_⟩
      have h2 := (hxs i x hx).2.2 j v hv
      have hadd : ∀ k, a'.add k = ⟨a'.block, a'.off + k, none⟩ := by
        intro k
        unfold Addr.add
        split
        · rename_i h0; rw [ha, h0]; rfl
        · rfl
      rw [hadd] at h2
      unfold Addr.add at h2
      split at h2
      · rename_i h0; rw [h0]; exact h2
      · simpa [Nat.add_assoc] using h2
    · obtain ⟨i, hi, rfl⟩ := List.getElem_of_mem hx
      exact (hxs i _ (List.getElem?_eq_getElem hi)).1

/-- A row is not greater than what fits. -/
theorem sized_row {ts : List TypeId} {ds : List (DataW H)} (h : (DataW.weightsEach P ts ds).all (· ≤ reachBytes) = true) {j n : Nat} {T E : TypeId} {d : DataW H} (ht : ts[j]? = some T) (hd : ds[j]? = some d) (hu : P.underlying T = some (.slice E)) (hb : P.bytesOf E = n)
    {w : World} {a : Option Addr} {len cap base : Nat} {spare : Nat → Bool} {held : Bool} {p : List MemPlace} (hr : DataW.Trod enc P w base spare held T (.slice a len cap) d p) : len * n ≤ 140737488351232 := by
  obtain ⟨fuel, hf⟩ := hr
  rcases DataW.trod_slice hu hf with ⟨hcs, _⟩ | ⟨a', len', cap', elems, rest, m, _, hcs, hx, _, hl, hm, he, hcells, _⟩
  · simp [Value.cells] at hcs
    obtain ⟨rfl, rfl, rfl⟩ := hcs
    simp
  · simp [Value.cells] at hcs
    obtain ⟨rfl, rfl, rfl⟩ := hcs
    simp at hx
    obtain ⟨rfl, _⟩ := hx
    have z := sized_slice h ht hd hu
    simp only [List.length_map, hb, he, reachBytes] at z
    exact Nat.le_trans (Nat.mul_le_mul_right n (Nat.le_add_right _ _)) z

/-- A value of a struct's type. -/
theorem Flat.agg {T : TypeId} {fs : Array Field} {α : Type} {out : α → List Value} {ok : α → Prop} (g : Flat P T out ok) (h : P.underlying T = some (.struct fs)) {w : World} {r : Reach} {b0 base : Nat} {spare : Nat → Bool} {held : Bool} {v : Value} {d : DataW H} {p : List MemPlace}
    (hv : Value.okWide P w r b0 T v) (hr : DataW.Trod enc P w base spare held T v d p) : ∃ y, v = .agg (out y).toArray ∧ ok y := by
  obtain ⟨cs, rfl, _⟩ := okWide_struct h hv
  obtain ⟨fuel, hf⟩ := hr
  obtain ⟨y, hy, ky⟩ := g hf
  exact ⟨y, by rw [← hy]; rfl, ky⟩
end
end Go.Proofs.Ytpdibjaeopcimaa
