/- What the bound of an Upto statement gives: the sizes of what is read, of flat types, in sum. -/
import Derived.Test.YtoknpcohhnlncaaRows
import Derived.Test.YtoknpcohhnlncaaOpen
import Derived.Deep.CondSized
set_option linter.unusedVariables false
set_option linter.unusedSimpArgs false
namespace Go.Proofs.Ytoknpcohhnlncaa
open Go.ChangeShapes Go.WideShapes Go.ChangeAt Go.RowKit

theorem bulk_append {H : Type} (l r : List (DataW H)) : Rows.uptoBulkAll (l ++ r) = Rows.uptoBulkAll l + Rows.uptoBulkAll r := by
  induction l with
  | nil => simp [Rows.uptoBulkAll]
  | cons x l ih => simp only [List.cons_append, Rows.uptoBulkAll, ih]; omega
theorem bulk_bound {H : Type} {l : List (DataW H)} (hk : Rows.uptoSmall H l = true) : Rows.uptoBulkAll l ≤ 1048576 := of_decide_eq_true hk

section
variable {H : Type} {enc : TypeId × Value → H} {P : Program}

/-- As Flat, and what a value weighs is at most its data's bulk. -/
def FlatB (P : Program) (T : TypeId) {α : Type} (out : α → List Value) (ok : α → Prop) (m : α → Nat) : Prop :=
  ∀ {H : Type} {enc : TypeId × Value → H} {w : World} {base : Nat} {spare : Nat → Bool} {held : Bool} {fuel : Nat} {cs : List Value} {x : DataW H × List MemPlace},
    DataW.trod enc P w base spare held fuel T cs = some x → ∃ y, cs = out y ∧ ok y ∧ m y ≤ Rows.uptoBulk x.1

theorem FlatB.int {T : TypeId} {k : IntKind} (h : P.underlying T = some (.int k)) : FlatB P T (fun n : Int => [.int k n]) (fun n => (Lit.int k n).wf = true) (fun _ => 1) := by
  intro _ _ _ _ _ _ _ _ _ hx
  obtain ⟨n, h1, rfl, h2⟩ := DataW.trod_int h hx
  exact ⟨n, h1, h2, by simp [Rows.uptoBulk]⟩
theorem FlatB.bool {T : TypeId} (h : P.underlying T = some .bool) : FlatB P T (fun b : Bool => [.bool b]) (fun _ => True) (fun _ => 1) := by
  intro _ _ _ _ _ _ _ _ _ hx
  obtain ⟨n, h1, rfl⟩ := DataW.trod_bool h hx
  exact ⟨n, h1, trivial, by simp [Rows.uptoBulk]⟩
theorem FlatB.str {T : TypeId} (h : P.underlying T = some .string) : FlatB P T (fun s : ByteArray => [.string s]) (fun s => s.size ≤ maxLen) (fun s => s.size + 1) := by
  intro _ _ _ _ _ _ _ _ _ hx
  obtain ⟨n, h1, rfl, h2⟩ := DataW.trod_string h hx
  refine ⟨n, h1, h2, ?_⟩
  have e : n.data.toList.length = n.size := by rw [Array.length_toList]; rfl
  simp [Rows.uptoBulk, e]

def FlatFsB (P : Program) (fs : List Field) (off total : Nat) {α : Type} (out : α → List Value) (ok : α → Prop) (m : α → Nat) : Prop :=
  ∀ {H : Type} {enc : TypeId × Value → H} {w : World} {base : Nat} {spare : Nat → Bool} {held : Bool} {n : Nat} {cs : List Value} {xs : List (DataW H × List MemPlace)},
    cs.length = total → xs.length = fs.length → (∀ (i : Nat) (f : Field), fs[i]? = some f → DataW.trod enc P w base spare held n f.type ((cs.drop f.offset).take (P.cellsOf f.type)) = xs[i]?) →
    ∃ y, cs.drop off = out y ∧ ok y ∧ m y ≤ Rows.uptoBulkAll (xs.map (·.1))
theorem FlatFsB.last {f : Field} {off total : Nat} {α : Type} {o : α → List Value} {k : α → Prop} {m : α → Nat} (g : FlatB P f.type o k m) (z : f.offset = off) (z2 : off + P.cellsOf f.type = total) : FlatFsB P [f] off total o k m := by
  intro _ _ _ _ _ _ _ cs xs hl hx hf
  have e0 := hf 0 f rfl
  match xs, hx with
  | [y0], hx =>
    rw [z] at e0
    obtain ⟨a, ha, ka, ma⟩ := g e0
    rw [List.take_of_length_le (by rw [List.length_drop]; omega)] at ha
    exact ⟨a, ha, ka, by simpa [Rows.uptoBulkAll] using ma⟩
theorem FlatFsB.cons {f : Field} {fs : List Field} {off total : Nat} {α β : Type} {o0 : α → List Value} {k0 : α → Prop} {m0 : α → Nat} {o1 : β → List Value} {k1 : β → Prop} {m1 : β → Nat} (g : FlatB P f.type o0 k0 m0) (z : f.offset = off)
    (gs : FlatFsB P fs (off + P.cellsOf f.type) total o1 k1 m1) : FlatFsB P (f :: fs) off total (fun y : α × β => o0 y.1 ++ o1 y.2) (fun y => k0 y.1 ∧ k1 y.2) (fun y => m0 y.1 + m1 y.2) := by
  intro _ _ _ _ _ _ _ cs xs hl hx hf
  have e0 := hf 0 f rfl
  match xs, hx with
  | x0 :: xs, hx =>
    obtain ⟨a, ha, ka, ma⟩ := g e0
    obtain ⟨b, hb, kb, mb⟩ := gs hl (by simpa using hx) (fun i f' hi => hf (i + 1) f' hi)
    refine ⟨(a, b), ?_, ⟨ka, kb⟩, ?_⟩
    · show _ = o0 a ++ o1 b
      rw [← ha, ← hb, z, ← List.drop_drop, List.take_append_drop]
    · simp only [List.map_cons, Rows.uptoBulkAll]
      omega
theorem FlatB.struct {T : TypeId} {fs : Array Field} {α : Type} {o : α → List Value} {k : α → Prop} {m : α → Nat} (h : P.underlying T = some (.struct fs)) (g : FlatFsB P fs.toList 0 (P.cellsOf T) o k m) : FlatB P T o k m := by
  intro _ _ _ _ _ _ _ cs _ hx
  obtain ⟨xs, n, _, rfl, hl, hxs, hf⟩ := DataW.trod_struct h hx
  obtain ⟨y, hy, ky, my⟩ := g hl (by simpa using hxs) (fun i f hi => hf i f (by simpa using hi))
  exact ⟨y, by simpa using hy, ky, by simp only [Rows.uptoBulk]; omega⟩
theorem FlatB.iso {T : TypeId} {α β : Type} {o : α → List Value} {k : α → Prop} {m : α → Nat} {o' : β → List Value} {k' : β → Prop} {m' : β → Nat} (g : FlatB P T o k m) (f : α → β) (h : ∀ x, k x → o x = o' (f x) ∧ k' (f x) ∧ m' (f x) ≤ m x) : FlatB P T o' k' m' := by
  intro _ _ _ _ _ _ _ cs _ hx
  obtain ⟨y, hy, ky, my⟩ := g hx
  exact ⟨f y, by rw [hy]; exact (h y ky).1, (h y ky).2.1, Nat.le_trans (h y ky).2.2 my⟩
theorem FlatB.flat {T : TypeId} {α : Type} {o : α → List Value} {k : α → Prop} {m : α → Nat} (g : FlatB P T o k m) : Flat P T o k := by
  intro _ _ _ _ _ _ _ cs _ hx
  obtain ⟨y, hy, ky, _⟩ := g hx
  exact ⟨y, hy, ky⟩

/-- A row's data, element by element. -/
theorem sum_le {H α : Type} {m : α → Nat} : ∀ (xs : List α) (ds : List (DataW H)), xs.length = ds.length → (∀ (i : Nat) (x : α) (d : DataW H), xs[i]? = some x → ds[i]? = some d → m x ≤ Rows.uptoBulk d) → (xs.map m).sum ≤ Rows.uptoBulkAll ds
  | [], _, _, _ => by simp
  | x :: xs, [], h, _ => by simp at h
  | x :: xs, d :: ds, h, hm => by
    have h1 := hm 0 x d rfl rfl
    have h2 := sum_le (m := m) xs ds (by simpa using h) (fun i y e hy he => hm (i + 1) y e hy he)
    simp only [List.map_cons, List.sum_cons, Rows.uptoBulkAll]
    omega

theorem open_rowB {T E : TypeId} {α : Type} {out : α → List Value} {ok : α → Prop} {m : α → Nat} (g : FlatB P E out ok m) (ht : P.underlying T = some (.slice E)) (hpos : 0 < P.cellsOf E) {w : World} {a : Option Addr} {len cap base : Nat} {spare : Nat → Bool} {held : Bool} {d : DataW H} {p : List MemPlace}
    (hr : DataW.Trod enc P w base spare held T (.slice a len cap) d p) : ∃ xs : List α, xs.length = len ∧ len ≤ cap ∧ cap ≤ maxLen ∧ RowAt w a (P.cellsOf E) out xs ∧ (∀ x ∈ xs, ok x) ∧ (xs.map m).sum + 1 ≤ Rows.uptoBulk d := by
  obtain ⟨fuel, hf⟩ := hr
  rcases DataW.trod_slice ht hf with ⟨hcs, hd⟩ | ⟨a', len', cap', elems, rest, n, _, hcs, hd, _, hl, hm, he, hcells, _⟩
  · simp [Value.cells] at hcs
    obtain ⟨rfl, rfl, rfl⟩ := hcs
    refine ⟨[], rfl, Nat.le_refl _, by simp [maxLen], fun i x h => by simp at h, fun x h => by simp at h, ?_⟩
    simp at hd
    obtain ⟨rfl, _⟩ := hd
    simp [Rows.uptoBulk]
  · simp [Value.cells] at hcs
    obtain ⟨rfl, rfl, rfl⟩ := hcs
    simp at hd
    obtain ⟨rfl, _⟩ := hd
    have hz : ∀ i, i < len → ∃ x : α, (ok x ∧ (∀ e, elems[i]? = some e → m x ≤ Rows.uptoBulk e.1)) ∧ (out x).length = P.cellsOf E ∧ ∀ j v, (out x)[j]? = some v → w.cell? ((a'.add (i * P.cellsOf E)).add j) = some v := by
      intro i hi
      have h1 := hcells i hi
      rw [List.getElem?_eq_getElem (by omega)] at h1
      obtain ⟨cs, hcs, hx⟩ := Option.bind_eq_some_iff.1 h1
      obtain ⟨hl2, hc2⟩ := cells?_get hcs
      obtain ⟨y, rfl, hy, my⟩ := g hx
      refine ⟨y, ⟨hy, fun e he2 => ?_⟩, hl2, hc2⟩
      rw [List.getElem?_eq_getElem (by omega)] at he2
      cases he2
      exact my
    obtain ⟨xs, hxl, hxs⟩ := list_of_each len hz
    refine ⟨xs, hxl, hl, hm, fun i x hx => ?_, fun x hx => ?_, ?_⟩
    · have hlen : 0 < len := by have := (List.getElem?_eq_some_iff.1 hx).1; omega
      obtain ⟨x0, hx0⟩ : ∃ x0, xs[0]? = some x0 := ⟨_, List.getElem?_eq_getElem (by omega)⟩
      obtain ⟨_, hl0, hc0⟩ := hxs 0 x0 hx0
      obtain ⟨v0, hv0⟩ : ∃ v0, (out x0)[0]? = some v0 := ⟨_, List.getElem?_eq_getElem (by omega)⟩
      have hc := hc0 0 v0 hv0
      simp only [Nat.zero_mul, Addr.add, if_true] at hc
      obtain ⟨ha, hlt⟩ := cell_spot hc
      refine ⟨a'.block, a'.off, by rw [← ha], hlt, fun j v hv => ?_⟩
      have h2 := (hxs i x hx).2.2 j v hv
      have hadd : ∀ k, a'.add k = ⟨a'.block, a'.off + k, none⟩ := by
        intro k
        unfold Addr.add
        split
        · rename_i h0; rw [ha, h0]; rfl
        · rfl
      rw [hadd] at h2
      unfold Addr.add at h2
      split at h2
      · rename_i h0; rw [h0]; exact h2
      · simpa [Nat.add_assoc] using h2
    · obtain ⟨i, hi, rfl⟩ := List.getElem_of_mem hx
      exact (hxs i _ (List.getElem?_eq_getElem hi)).1.1
    · have := sum_le (m := m) xs (elems.map (·.1)) (by simp; omega) (fun i x e hx he2 => by
        rw [List.getElem?_map] at he2
        obtain ⟨e', he3, rfl⟩ := Option.map_eq_some_iff.1 he2
        exact (hxs i x hx).1.2 e' he3)
      simp only [Rows.uptoBulk]
      omega
end
end Go.Proofs.Ytoknpcohhnlncaa
