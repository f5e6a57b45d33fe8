/- How an argument that is an array of two is opened. Of whatever program. -/
import Derived.Test.YtpcocmdhdnfjcaaOpen
set_option linter.unusedVariables false
set_option linter.unusedSimpArgs false
namespace Go.Proofs.Ytpcocmdhdnfjcaa
open Go.ChangeShapes Go.WideShapes Go.ChangeAt Go.RowKit
section
variable {H : Type} {enc : TypeId × Value → H} {P : Program}
theorem trod_array {w : World} {base : Nat} {spare : Nat → Bool} {held : Bool} {fuel : Nat} {t e : TypeId} {n : Nat} {cs : List Value} {x : DataW H × List MemPlace} (ht : P.underlying t = some (.array n e)) (h : DataW.trod enc P w base spare held fuel t cs = some x) :
    ∃ (xs : List (DataW H × List MemPlace)) (m : Nat), cs.length = P.cellsOf t ∧ xs.length = n ∧ ∀ i, i < n → DataW.trod enc P w base spare held m e ((cs.drop (i * P.cellsOf e)).take (P.cellsOf e)) = xs[i]? := by
  cases fuel with
  | zero => simp [DataW.trod] at h
  | succ n =>
    unfold DataW.trod at h
    rw [ht] at h
    split at h <;> simp_all
    obtain ⟨hl, xs, hp, hd⟩ := h
    exact ⟨xs, by simpa using mapM_some_length hp, n, fun i hi => mapM_some_get hp i i (by simp [hi])⟩
/-- An array of two. -/
theorem Flat.two {T E : TypeId} {α : Type} {o : α → List Value} {k : α → Prop} (g : Flat P E o k) (h : P.underlying T = some (.array 2 E)) (h2 : P.cellsOf T = P.cellsOf E + P.cellsOf E) : Flat P T (fun y : α × α => o y.1 ++ o y.2) (fun y => k y.1 ∧ k y.2) := by
  intro _ _ _ _ _ _ _ cs _ hx
  obtain ⟨xs, m, hl, hn, hf⟩ := trod_array h hx
  have e0 := hf 0 (by omega)
  have e1 := hf 1 (by omega)
  rw [List.getElem?_eq_getElem (by omega)] at e0 e1
  obtain ⟨y0, h0, k0⟩ := g e0
  obtain ⟨y1, h1, k1⟩ := g e1
  refine ⟨(y0, y1), ?_, k0, k1⟩
  show cs = o y0 ++ o y1
  rw [← h0, ← h1, Nat.zero_mul, List.drop_zero, Nat.one_mul, List.take_of_length_le (l := cs.drop _) (by rw [List.length_drop]; omega), List.take_append_drop]
theorem Flat.aggA {T E : TypeId} {n : Nat} {α : Type} {out : α → List Value} {ok : α → Prop} (g : Flat P T out ok) (h : P.underlying T = some (.array n E)) {w : World} {r : Reach} {b0 base : Nat} {spare : Nat → Bool} {held : Bool} {v : Value} {d : DataW H} {p : List MemPlace}
    (hv : Value.okWide P w r b0 T v) (hr : DataW.Trod enc P w base spare held T v d p) : ∃ y, v = .agg (out y).toArray ∧ ok y := by
  have hv' := hv
  simp only [Value.okWide, h] at hv'
  obtain ⟨cs, rfl, _, _⟩ := hv'
  obtain ⟨fuel, hf⟩ := hr
  obtain ⟨y, hy, ky⟩ := g hf
  exact ⟨y, by rw [← hy]; rfl, ky⟩
end
end Go.Proofs.Ytpcocmdhdnfjcaa
