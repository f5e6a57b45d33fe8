/- A part, weighed; PackWrites, as its row asks. -/
import Derived.Test.YtlombcclglffgaaPkWrites
import Derived.Test.YtlombcclglffgaaBulk
set_option linter.unusedVariables false
set_option linter.unusedSimpArgs false
namespace Go.Proofs.Ytlombcclglffgaa
open Go.RowKit
theorem flatPartB : FlatB Try.prog 38 PartD.out (fun p => p.s.size ≤ maxLen) (fun p => p.s.size + 5) :=
  FlatB.iso (FlatB.struct Try.underlying38 (FlatFsB.cons (FlatB.int Try.underlying3) rfl (FlatFsB.cons (FlatB.int Try.underlying3) (by kernel_rfl) (FlatFsB.cons (FlatB.int Try.underlying3) (by kernel_rfl) (FlatFsB.cons (FlatB.str Try.underlying9) (by kernel_rfl) (FlatFsB.last (FlatB.bool Try.underlying4) (by kernel_rfl) (by kernel_rfl)))))))
    (fun y => (⟨y.1, y.2.1, y.2.2.1, y.2.2.2.1, y.2.2.2.2⟩ : PartD)) (fun _ h => ⟨rfl, h.2.2.2.1, by simp only; omega⟩)
theorem room_bulk : ∀ ps : List PartD, room ps ≤ 2 * (ps.map fun p => p.s.size + 5).sum
  | [] => by simp [room]
  | p :: ps => by
    have h2 := room_bulk ps
    have h3 : room (p :: ps) = p.s.size + 10 + room ps := by simp [room]
    simp only [List.map_cons, List.sum_cons]
    omega
theorem writes_row (a : Option Addr) (cap : Nat) (ps : List PartD) (w : World) (_ : ps.length ≤ cap) (ro : RowAt w a 5 PartD.out ps) (_ : ∀ p ∈ ps, p.s.size ≤ maxLen) (_ : ps.length * 48 ≤ 140737488351232) (hb : (ps.map fun p => p.s.size + 5).sum + 1 ≤ 1048576) :
    Calls Try.prog 6 #[.slice a ps.length cap] w fun e w' => e = .returned (.bool true) ∧ Below w.heap.size w w' :=
  writes_any a cap ps w ro (by have := room_bulk ps; omega)
end Go.Proofs.Ytlombcclglffgaa
