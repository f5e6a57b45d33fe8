/- An item of the document's, opened: its tags, too. -/
import Derived.Test.YtpdibjaeopcimaaFlatM
import Derived.Test.YtpdibjaeopcimaaIl
set_option linter.unusedVariables false
set_option linter.unusedSimpArgs false
namespace Go.Proofs.Ytpdibjaeopcimaa
open Go.RowKit
theorem flatSeq : Flat Try.prog 39 plO (fun s => (Lit.int .i64 s.1).wf = true ∧ (Lit.int .i64 s.2).wf = true) :=
  Flat.iso (Flat.struct Try.underlying39 (FlatFs.cons (Flat.int Try.underlying3) rfl (FlatFs.last (Flat.int Try.underlying3) (by kernel_rfl) (by kernel_rfl)))) (fun y => (y.1, y.2)) (fun _ h => ⟨rfl, h⟩)
theorem flatId : Flat Try.prog 23 plO (fun s => (Lit.int .i64 s.1).wf = true ∧ (Lit.int .i64 s.2).wf = true) :=
  Flat.iso (Flat.struct Try.underlying23 (FlatFs.cons (Flat.int Try.underlying3) rfl (FlatFs.last (Flat.int Try.underlying3) (by kernel_rfl) (by kernel_rfl)))) (fun y => (y.1, y.2)) (fun _ h => ⟨rfl, h⟩)
theorem flatPlace : Flat Try.prog 52 plO (fun s => (Lit.int .i64 s.1).wf = true ∧ (Lit.int .i64 s.2).wf = true) :=
  Flat.iso (Flat.struct Try.underlying52 (FlatFs.cons (Flat.int Try.underlying3) rfl (FlatFs.last (Flat.int Try.underlying3) (by kernel_rfl) (by kernel_rfl)))) (fun y => (y.1, y.2)) (fun _ h => ⟨rfl, h⟩)
def recO (p : Rc × Value) : List Value := [.int .i64 p.1.id.1, .int .i64 p.1.id.2, p.2, .string p.1.data]
theorem flatRec : FlatM Try.prog 26 recO (fun w p => VRow (fun k => k < w.heap.size) 1 intO w p.2 p.1.tags ∧ p.1.tags.length ≤ 140737488351232 ∧ p.1.data.size ≤ 140737488351232) := by
  intro H enc w base spare held fuel cs x hx hw
  obtain ⟨y, hy, ky⟩ := FlatM.struct Try.underlying26 (FlatFsM.cons (FlatW.m (Flat.weigh flatId)) rfl (FlatFsM.cons (FlatM.ints Try.underlying24 Try.underlying3 (by kernel_rfl) (by kernel_rfl)) (by kernel_rfl) (FlatFsM.last (FlatW.m (FlatW.str Try.underlying9)) (by kernel_rfl) (by kernel_rfl)))) hx hw
  exact ⟨((⟨y.1, y.2.1.1, y.2.2⟩ : Rc), y.2.1.2), by rw [hy]; rfl, ky.2.1.1, ky.2.1.2, ky.2.2⟩
theorem flatItem : FlatM Try.prog 54 itO (fun w p => VRow (fun k => k < w.heap.size) 1 intO w p.2 p.1.r.tags ∧ p.1.r.tags.length ≤ 140737488351232 ∧ p.1.r.data.size ≤ 140737488351232) := by
  intro H enc w base spare held fuel cs x hx hw
  obtain ⟨y, hy, ky⟩ := FlatM.struct Try.underlying54 (FlatFsM.cons (FlatW.m (Flat.weigh (Flat.int Try.underlying3))) rfl (FlatFsM.cons (FlatW.m (Flat.weigh flatSeq)) (by kernel_rfl) (FlatFsM.cons flatRec (by kernel_rfl) (FlatFsM.cons (FlatW.m (Flat.weigh (Flat.int Try.underlying3))) (by kernel_rfl) (FlatFsM.cons (FlatW.m (Flat.weigh flatSeq)) (by kernel_rfl) (FlatFsM.last (FlatW.m (Flat.weigh flatPlace)) (by kernel_rfl) (by kernel_rfl))))))) hx hw
  exact ⟨((⟨y.1, y.2.1, y.2.2.1.1, y.2.2.2.1, y.2.2.2.2.1, y.2.2.2.2.2⟩ : It), y.2.2.1.2), by rw [hy]; rfl, ky.2.2.1⟩
theorem its_of {w : World} {v : Value} {l : List (It × Value)} (h : VRow (fun k => k < w.heap.size) 12 itO w v l) (ok : ∀ p ∈ l, VRow (fun k => k < w.heap.size) 1 intO w p.2 p.1.r.tags ∧ p.1.r.tags.length ≤ 140737488351232 ∧ p.1.r.data.size ≤ 140737488351232) : ItsAt (fun k => k < w.heap.size) w v l := ⟨h, fun p hp => (ok p hp).1⟩
theorem flatIntM : FlatM Try.prog 3 intO (fun _ n => (Lit.int .i64 n).wf = true) := FlatW.m (Flat.weigh (Flat.int Try.underlying3))
end Go.Proofs.Ytpdibjaeopcimaa
