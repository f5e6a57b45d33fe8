/- How arguments are opened, each text in them as long as the reach allows. Of whatever program. -/
import Derived.Test.YtpdibjaeopcimaaOpen
set_option linter.unusedVariables false
set_option linter.unusedSimpArgs false
namespace Go.Proofs.Ytpdibjaeopcimaa
open Go.ChangeShapes Go.WideShapes Go.ChangeAt Go.RowKit
section
variable {H : Type} {enc : TypeId × Value → H} {P : Program}

/-- As Flat, for data all of whose weights the reach allows. -/
def FlatW (P : Program) (T : TypeId) {α : Type} (out : α → List Value) (ok : α → Prop) : Prop :=
  ∀ {H : Type} {enc : TypeId × Value → H} {w : World} {base : Nat} {spare : Nat → Bool} {held : Bool} {fuel : Nat} {cs : List Value} {x : DataW H × List MemPlace},
    DataW.trod enc P w base spare held fuel T cs = some x → (∀ n ∈ x.1.weights P T, n ≤ 140737488351232) → ∃ y, cs = out y ∧ ok y

theorem Flat.weigh {T : TypeId} {α : Type} {out : α → List Value} {ok : α → Prop} (g : Flat P T out ok) : FlatW P T out ok := fun hx _ => g hx
theorem FlatW.str {T : TypeId} (h : P.underlying T = some .string) : FlatW P T (fun s : ByteArray => [.string s]) (fun s => s.size ≤ 140737488351232) := by
  intro _ _ _ _ _ _ _ _ _ hx hw
  obtain ⟨n, h1, rfl, h2⟩ := DataW.trod_string h hx
  refine ⟨n, h1, ?_⟩
  have e : n.data.toList.length = n.size := by rw [Array.length_toList]; rfl
  have := hw n.data.toList.length (by simp [DataW.weights])
  omega

def FlatFsW (P : Program) (fs : List Field) (off total : Nat) {α : Type} (out : α → List Value) (ok : α → Prop) : Prop :=
  ∀ {H : Type} {enc : TypeId × Value → H} {w : World} {base : Nat} {spare : Nat → Bool} {held : Bool} {n : Nat} {cs : List Value} {xs : List (DataW H × List MemPlace)},
    cs.length = total → xs.length = fs.length → (∀ (i : Nat) (f : Field), fs[i]? = some f → DataW.trod enc P w base spare held n f.type ((cs.drop f.offset).take (P.cellsOf f.type)) = xs[i]?) →
    (∀ m ∈ DataW.weightsEach P (fs.map (·.type)) (xs.map (·.1)), m ≤ 140737488351232) → ∃ y, cs.drop off = out y ∧ ok y
theorem FlatFsW.last {f : Field} {off total : Nat} {α : Type} {o : α → List Value} {k : α → Prop} (g : FlatW P f.type o k) (z : f.offset = off) (z2 : off + P.cellsOf f.type = total) : FlatFsW P [f] off total o k := by
  intro _ _ _ _ _ _ _ cs xs hl hx hf hw
  have e0 := hf 0 f rfl
  match xs, hx with
  | [y0], hx =>
    rw [z] at e0
    obtain ⟨a, ha, ka⟩ := g e0 (fun n hn => hw n (by simp [DataW.weightsEach, hn]))
    rw [List.take_of_length_le (by rw [List.length_drop]; omega)] at ha
    exact ⟨a, ha, ka⟩
theorem FlatFsW.cons {f : Field} {fs : List Field} {off total : Nat} {α β : Type} {o0 : α → List Value} {k0 : α → Prop} {o1 : β → List Value} {k1 : β → Prop} (g : FlatW P f.type o0 k0) (z : f.offset = off)
    (gs : FlatFsW P fs (off + P.cellsOf f.type) total o1 k1) : FlatFsW P (f :: fs) off total (fun y : α × β => o0 y.1 ++ o1 y.2) (fun y => k0 y.1 ∧ k1 y.2) := by
  intro _ _ _ _ _ _ _ cs xs hl hx hf hw
  have e0 := hf 0 f rfl
  match xs, hx with
  | x0 :: xs, hx =>
    obtain ⟨a, ha, ka⟩ := g e0 (fun n hn => hw n (by simp [DataW.weightsEach, hn]))
    obtain ⟨b, hb, kb⟩ := gs hl (by simpa using hx) (fun i f' hi => hf (i + 1) f' hi) (fun n hn => hw n (by simp [DataW.weightsEach]; exact .inr (by simpa using hn)))
    refine ⟨(a, b), ?_, ka, kb⟩
    show _ = o0 a ++ o1 b
    rw [← ha, ← hb, z, ← List.drop_drop, List.take_append_drop]
theorem FlatW.struct {T : TypeId} {fs : Array Field} {α : Type} {o : α → List Value} {k : α → Prop} (h : P.underlying T = some (.struct fs)) (g : FlatFsW P fs.toList 0 (P.cellsOf T) o k) : FlatW P T o k := by
  intro _ _ _ _ _ _ _ cs _ hx hw
  obtain ⟨xs, n, _, rfl, hl, hxs, hf⟩ := DataW.trod_struct h hx
  obtain ⟨y, hy, ky⟩ := g hl (by simpa using hxs) (fun i f hi => hf i f (by simpa using hi)) (fun m hm => hw m (by
    unfold DataW.weights
    rw [h]
    exact hm))
  exact ⟨y, by simpa using hy, ky⟩
theorem FlatW.iso {T : TypeId} {α β : Type} {o : α → List Value} {k : α → Prop} {o' : β → List Value} {k' : β → Prop} (g : FlatW P T o k) (f : α → β) (h : ∀ x, k x → o x = o' (f x) ∧ k' (f x)) : FlatW P T o' k' := by
  intro _ _ _ _ _ _ _ cs _ hx hw
  obtain ⟨y, hy, ky⟩ := g hx hw
  exact ⟨f y, by rw [hy]; exact (h y ky).1, (h y ky).2⟩

theorem weights_mem_all {E : TypeId} : ∀ {ds : List (DataW H)} {d : DataW H} {n : Nat}, d ∈ ds → n ∈ d.weights P E → n ∈ DataW.weightsAll P E ds
  | x :: ds, d, n, hd, hn => by
    unfold DataW.weightsAll
    rcases List.mem_cons.1 hd with h | h
    · subst h
      exact List.mem_append_left _ hn
    · exact List.mem_append_right _ (weights_mem_all h hn)

theorem open_rowW {T E : TypeId} {α : Type} {out : α → List Value} {ok : α → Prop} (g : FlatW P E out ok) (ht : P.underlying T = some (.slice E)) (hpos : 0 < P.cellsOf E) {w : World} {a : Option Addr} {len cap base : Nat} {spare : Nat → Bool} {held : Bool} {d : DataW H} {p : List MemPlace}
    (hr : DataW.Trod enc P w base spare held T (.slice a len cap) d p) (hw : ∀ n ∈ d.weights P T, n ≤ 140737488351232) : ∃ xs : List α, xs.length = len ∧ len ≤ cap ∧ cap ≤ maxLen ∧ RowAt w a (P.cellsOf E) out xs ∧ ∀ x ∈ xs, ok x := by
  obtain ⟨fuel, hf⟩ := hr
  rcases DataW.trod_slice ht hf with ⟨hcs, _⟩ | ⟨a', len', cap', elems, rest, n, _, hcs, hd, _, hl, hm, he, hcells, _⟩
  · simp [Value.cells] at hcs
    obtain ⟨rfl, rfl, rfl⟩ := hcs
    exact ⟨[], rfl, Nat.le_refl _, by simp [maxLen], fun i x h => by simp at h, fun x h => by simp at h⟩
  · simp [Value.cells] at hcs
    obtain ⟨rfl, rfl, rfl⟩ := hcs
    simp at hd
    obtain ⟨rfl, _⟩ := hd
    have hz : ∀ i, i < len → ∃ x : α, ok x ∧ (out x).length = P.cellsOf E ∧ ∀ j v, (out x)[j]? = some v → w.cell? ((a'.add (i * P.cellsOf E)).add j) = some v := by
      intro i hi
      have h1 := hcells i hi
      rw [List.getElem?_eq_getElem (by omega)] at h1
      obtain ⟨cs, hcs, hx⟩ := Option.bind_eq_some_iff.1 h1
      obtain ⟨hl2, hc2⟩ := cells?_get hcs
      obtain ⟨y, rfl, hy⟩ := g hx (fun m hm => hw m (by
        unfold DataW.weights
        rw [ht]
        exact List.mem_cons_of_mem _ (List.mem_append_left _ (weights_mem_all (List.mem_map_of_mem (List.getElem_mem _)) hm))))
      exact ⟨y, hy, hl2, hc2⟩
    obtain ⟨xs, hxl, hxs⟩ := list_of_each len hz
    refine ⟨xs, hxl, hl, hm, fun i x hx => ?_, fun x hx => ?_⟩
    · have hlen : 0 < len := by have := (List.getElem?_eq_some_iff.1 hx).1; omega
      obtain ⟨x0, hx0⟩ : ∃ x0, xs[0]? = some x0 := ⟨_, List.getElem?_eq_getElem (by omega)⟩
      obtain ⟨_, hl0, hc0⟩ := hxs 0 x0 hx0
      obtain ⟨v0, hv0⟩ : ∃ v0, (out x0)[0]? = some v0 := ⟨_, List.getElem?_eq_getElem (by omega)⟩
      have hc := hc0 0 v0 hv0
      simp only [Nat.zero_mul, Addr.add, if_true] at hc
      obtain ⟨ha, hlt⟩ := cell_spot hc
      refine ⟨a'.block, a'.off, by rw [← ha], hlt, fun j v hv => ?_⟩
      have h2 := (hxs i x hx).2.2 j v hv
      have hadd : ∀ k, a'.add k = ⟨a'.block, a'.off + k, none⟩ := by
        intro k
        unfold Addr.add
        split
        · rename_i h0; rw [ha, h0]; rfl
        · rfl
      rw [hadd] at h2
      unfold Addr.add at h2
      split at h2
      · rename_i h0; rw [h0]; exact h2
      · simpa [Nat.add_assoc] using h2
    · obtain ⟨i, hi, rfl⟩ := List.getElem_of_mem hx
      exact (hxs i _ (List.getElem?_eq_getElem hi)).1

/-- An argument's weights. -/
theorem arg_weights {ts : List TypeId} {ds : List (DataW H)} (h : (DataW.weightsEach P ts ds).all (· ≤ reachBytes) = true) {j : Nat} {T : TypeId} {d : DataW H} (ht : ts[j]? = some T) (hd : ds[j]? = some d) : ∀ n ∈ d.weights P T, n ≤ 140737488351232 := by
  intro n hn
  have := List.all_eq_true.1 h n (DataW.weights_mem_each ht hd n hn)
  exact of_decide_eq_true this
end
end Go.Proofs.Ytpdibjaeopcimaa
