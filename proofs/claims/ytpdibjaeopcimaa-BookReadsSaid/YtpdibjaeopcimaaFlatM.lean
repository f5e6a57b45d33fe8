/- How arguments with slices inside their elements are opened. Of whatever program. -/
import Derived.Test.YtpdibjaeopcimaaWeigh
import Derived.Test.YtpdibjaeopcimaaIx
set_option linter.unusedVariables false
set_option linter.unusedSimpArgs false
namespace Go.Proofs.Ytpdibjaeopcimaa
open Go.ChangeShapes Go.WideShapes Go.ChangeAt Go.RowKit
section
variable {H : Type} {enc : TypeId × Value → H} {P : Program}

/-- As FlatW, the test on a value being of the memory, too. -/
def FlatM (P : Program) (T : TypeId) {α : Type} (out : α → List Value) (ok : World → α → Prop) : Prop :=
  ∀ {H : Type} {enc : TypeId × Value → H} {w : World} {base : Nat} {spare : Nat → Bool} {held : Bool} {fuel : Nat} {cs : List Value} {x : DataW H × List MemPlace},
    DataW.trod enc P w base spare held fuel T cs = some x → (∀ n ∈ x.1.weights P T, n ≤ 140737488351232) → ∃ y, cs = out y ∧ ok w y
theorem FlatW.m {T : TypeId} {α : Type} {out : α → List Value} {ok : α → Prop} (g : FlatW P T out ok) : FlatM P T out (fun _ => ok) := fun hx hw => g hx hw
def FlatFsM (P : Program) (fs : List Field) (off total : Nat) {α : Type} (out : α → List Value) (ok : World → α → Prop) : Prop :=
  ∀ {H : Type} {enc : TypeId × Value → H} {w : World} {base : Nat} {spare : Nat → Bool} {held : Bool} {n : Nat} {cs : List Value} {xs : List (DataW H × List MemPlace)},
    cs.length = total → xs.length = fs.length → (∀ (i : Nat) (f : Field), fs[i]? = some f → DataW.trod enc P w base spare held n f.type ((cs.drop f.offset).take (P.cellsOf f.type)) = xs[i]?) →
    (∀ m ∈ DataW.weightsEach P (fs.map (·.type)) (xs.map (·.1)), m ≤ 140737488351232) → ∃ y, cs.drop off = out y ∧ ok w y
theorem FlatFsM.last {f : Field} {off total : Nat} {α : Type} {o : α → List Value} {k : World → α → Prop} (g : FlatM P f.type o k) (z : f.offset = off) (z2 : off + P.cellsOf f.type = total) : FlatFsM P [f] off total o k := by
  intro _ _ _ _ _ _ _ cs xs hl hx hf hw
  have e0 := hf 0 f rfl
  match xs, hx with
  | [y0], hx =>
    rw [z] at e0
    obtain ⟨a, ha, ka⟩ := g e0 (fun n hn => hw n (by simp [DataW.weightsEach, hn]))
    rw [List.take_of_length_le (by rw [List.length_drop]; omega)] at ha
    exact ⟨a, ha, ka⟩
theorem FlatFsM.cons {f : Field} {fs : List Field} {off total : Nat} {α β : Type} {o0 : α → List Value} {k0 : World → α → Prop} {o1 : β → List Value} {k1 : World → β → Prop} (g : FlatM P f.type o0 k0) (z : f.offset = off)
    (gs : FlatFsM P fs (off + P.cellsOf f.type) total o1 k1) : FlatFsM P (f :: fs) off total (fun y : α × β => o0 y.1 ++ o1 y.2) (fun w y => k0 w y.1 ∧ k1 w y.2) := by
  intro _ _ _ _ _ _ _ cs xs hl hx hf hw
  have e0 := hf 0 f rfl
  match xs, hx with
  | x0 :: xs, hx =>
    obtain ⟨a, ha, ka⟩ := g e0 (fun n hn => hw n (by simp [DataW.weightsEach, hn]))
    obtain ⟨b, hb, kb⟩ := gs hl (by simpa using hx) (fun i f' hi => hf (i + 1) f' hi) (fun n hn => hw n (by simp [DataW.weightsEach]; exact .inr (by simpa using hn)))
    refine ⟨(a, b), ?_, ka, kb⟩
    show _ = o0 a ++ o1 b
    rw [← ha, ← hb, z, ← List.drop_drop, List.take_append_drop]
theorem FlatM.struct {T : TypeId} {fs : Array Field} {α : Type} {o : α → List Value} {k : World → α → Prop} (h : P.underlying T = some (.struct fs)) (g : FlatFsM P fs.toList 0 (P.cellsOf T) o k) : FlatM P T o k := by
  intro _ _ _ _ _ _ _ cs _ hx hw
  obtain ⟨xs, n, _, rfl, hl, hxs, hf⟩ := DataW.trod_struct h hx
  obtain ⟨y, hy, ky⟩ := g hl (by simpa using hxs) (fun i f hi => hf i f (by simpa using hi)) (fun m hm => hw m (by
    unfold DataW.weights
    rw [h]
    exact hm))
  exact ⟨y, by simpa using hy, ky⟩
theorem FlatM.iso {T : TypeId} {α β : Type} {o : α → List Value} {k : World → α → Prop} {o' : β → List Value} {k' : World → β → Prop} (g : FlatM P T o k) (f : α → β) (h : ∀ w x, k w x → o x = o' (f x) ∧ k' w (f x)) : FlatM P T o' k' := by
  intro _ _ w _ _ _ _ cs _ hx hw
  obtain ⟨y, hy, ky⟩ := g hx hw
  exact ⟨f y, by rw [hy]; exact (h w y ky).1, (h w y ky).2⟩

theorem RowAt.v {α : Type} {w : World} {a : Option Addr} {sz cap : Nat} {out : α → List Value} {xs : List α} (h : RowAt w a sz out xs) (hl : xs.length ≤ cap) (hm : cap ≤ maxLen) : VRow (fun k => k < w.heap.size) sz out w (.slice a xs.length cap) xs :=
  ⟨a, cap, rfl, hl, hm, fun i x hx => by
    obtain ⟨b, off, e, hb, hc⟩ := h i x hx
    exact ⟨b, off, e, hb, hb, hc⟩⟩

theorem open_rowM' {T E : TypeId} {α : Type} {out : α → List Value} {ok : World → α → Prop} (g : FlatM P E out ok) (ht : P.underlying T = some (.slice E)) (hpos : 0 < P.cellsOf E) {w : World} {base : Nat} {spare : Nat → Bool} {held : Bool} {fuel : Nat} {cs : List Value} {d : DataW H × List MemPlace}
    (hf : DataW.trod enc P w base spare held fuel T cs = some d) (hw : ∀ n ∈ d.1.weights P T, n ≤ 140737488351232) : ∃ (a : Option Addr) (cap : Nat) (xs : List α), cs = [.slice a xs.length cap] ∧ xs.length ≤ cap ∧ cap ≤ maxLen ∧ RowAt w a (P.cellsOf E) out xs ∧ (∀ x ∈ xs, ok w x) ∧ xs.length * P.bytesOf E ≤ 140737488351232 := by
  rcases DataW.trod_slice ht hf with ⟨hcs, _⟩ | ⟨a', len, cap, elems, rest, n, _, hcs, hd, _, hl, hm, he, hcells, _⟩
  · exact ⟨none, 0, [], hcs, Nat.le_refl _, by simp [maxLen], fun i x h => by simp at h, (fun x h => by simp at h), by simp⟩
  · have hz : ∀ i, i < len → ∃ x : α, ok w x ∧ (out x).length = P.cellsOf E ∧ ∀ j v, (out x)[j]? = some v → w.cell? ((a'.add (i * P.cellsOf E)).add j) = some v := by
      intro i hi
      have h1 := hcells i hi
      rw [List.getElem?_eq_getElem (by omega)] at h1
      obtain ⟨cs, hcs, hx⟩ := Option.bind_eq_some_iff.1 h1
      obtain ⟨hl2, hc2⟩ := cells?_get hcs
      obtain ⟨y, rfl, hy⟩ := g hx (fun m hm => hw m (by
        rw [hd]
        unfold DataW.weights
        rw [ht]
        exact List.mem_cons_of_mem _ (List.mem_append_left _ (weights_mem_all (List.mem_map_of_mem (List.getElem_mem _)) hm))))
      exact ⟨y, hy, hl2, hc2⟩
    obtain ⟨xs, hxl, hxs⟩ := list_of_each len hz
    subst hxl
    refine ⟨some a', cap, xs, hcs, hl, hm, fun i x hx => ?_, fun x hx => ?_, ?_⟩
    · have hlen : 0 < xs.length := by have := (List.getElem?_eq_some_iff.1 hx).1; omega
      obtain ⟨x0, hx0⟩ : ∃ x0, xs[0]? = some x0 := ⟨_, List.getElem?_eq_getElem (by omega)⟩
      obtain ⟨_, hl0, hc0⟩ := hxs 0 x0 hx0
      obtain ⟨v0, hv0⟩ : ∃ v0, (out x0)[0]? = some v0 := ⟨_, List.getElem?_eq_getElem (by omega)⟩
      have hc := hc0 0 v0 hv0
      simp only [Nat.zero_mul, Addr.add, if_true] at hc
      obtain ⟨ha, hlt⟩ := cell_spot hc
      refine ⟨a'.block, a'.off, by rw [← ha], hlt, fun j v hv => ?_⟩
      have h2 := (hxs i x hx).2.2 j v hv
      have hadd : ∀ k, a'.add k = ⟨a'.block, a'.off + k, none⟩ := by
        intro k
        unfold Addr.add
        split
        · rename_i h0; rw [ha, h0]; rfl
        · rfl
      rw [hadd] at h2
      unfold Addr.add at h2
      split at h2
      · rename_i h0; rw [h0]; exact h2
      · simpa [Nat.add_assoc] using h2
    · obtain ⟨i, hi, rfl⟩ := List.getElem_of_mem hx
      exact (hxs i _ (List.getElem?_eq_getElem hi)).1
    · have h1 := hw _ (by
        rw [hd]
        unfold DataW.weights
        rw [ht]
        exact List.mem_cons_self)
      rw [List.length_map, he] at h1
      exact Nat.le_trans (Nat.mul_le_mul_right _ (Nat.le_add_right _ _)) h1
/-- A struct with a slice inside, by value. -/
theorem FlatM.agg {T : TypeId} {fs : Array Field} {α : Type} {out : α → List Value} {ok : World → α → Prop} (g : FlatM P T out ok) (h : P.underlying T = some (.struct fs)) {w : World} {r : Reach} {b0 base : Nat} {spare : Nat → Bool} {held : Bool} {v : Value} {d : DataW H} {p : List MemPlace}
    (hv : Value.okWide P w r b0 T v) (hr : DataW.Trod enc P w base spare held T v d p) (hw : ∀ n ∈ d.weights P T, n ≤ 140737488351232) : ∃ y, v = .agg (out y).toArray ∧ ok w y := by
  obtain ⟨cs, rfl, _⟩ := okWide_struct h hv
  obtain ⟨fuel, hf⟩ := hr
  obtain ⟨y, hy, ky⟩ := g hf hw
  exact ⟨y, by rw [← hy]; rfl, ky⟩
/-- A row of numbers, inside of something. -/
theorem FlatM.ints {T E : TypeId} (ht : P.underlying T = some (.slice E)) (he : P.underlying E = some (.int .i64)) (h1 : P.cellsOf E = 1) (h8 : P.bytesOf E = 8) : FlatM P T (fun y : List Int × Value => [y.2]) (fun w y => VRow (fun k => k < w.heap.size) 1 intO w y.2 y.1 ∧ y.1.length ≤ 140737488351232) := by
  intro _ _ w _ _ _ _ cs _ hx hw
  obtain ⟨a, cap, xs, hcs, hl, hm, hr, _, hs⟩ := open_rowM' (FlatW.m (Flat.weigh (Flat.int he))) ht (by omega) hx hw
  rw [h1] at hr
  rw [h8] at hs
  exact ⟨(xs, .slice a xs.length cap), hcs, RowAt.v hr hl hm, by simp only; omega⟩
theorem open_rowM {T E : TypeId} {α : Type} {out : α → List Value} {ok : World → α → Prop} (g : FlatM P E out ok) (ht : P.underlying T = some (.slice E)) (hpos : 0 < P.cellsOf E) {w : World} {a : Option Addr} {len cap base : Nat} {spare : Nat → Bool} {held : Bool} {d : DataW H} {p : List MemPlace}
    (hr : DataW.Trod enc P w base spare held T (.slice a len cap) d p) (hw : ∀ n ∈ d.weights P T, n ≤ 140737488351232) : ∃ xs : List α, VRow (fun k => k < w.heap.size) (P.cellsOf E) out w (.slice a len cap) xs ∧ (∀ x ∈ xs, ok w x) ∧ xs.length * P.bytesOf E ≤ 140737488351232 := by
  obtain ⟨fuel, hf⟩ := hr
  obtain ⟨a', cap', xs, hcs, hl, hm, hr, hok, hs⟩ := open_rowM' g ht hpos hf hw
  simp [Value.cells] at hcs
  obtain ⟨rfl, rfl, rfl⟩ := hcs
  exact ⟨xs, RowAt.v hr hl hm, hok, hs⟩
end
end Go.Proofs.Ytpdibjaeopcimaa
