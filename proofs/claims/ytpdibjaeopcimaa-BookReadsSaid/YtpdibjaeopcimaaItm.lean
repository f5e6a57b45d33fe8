/- Items in memory: one of them, cell by cell (chapter 17 has the same in XIp1). -/
import Derived.Test.YtpdibjaeopcimaaIl
set_option linter.unusedVariables false
set_option linter.unusedSimpArgs false
namespace Go.Proofs.Ytpdibjaeopcimaa
open Go.RowKit

theorem ItsAt.old {S : Nat → Prop} {w : World} {v : Value} {l : List (It × Value)} (h : ItsAt S w v l) : ItsAt (fun k => k < w.heap.size) w v l := ⟨h.row.mono fun _ hk _ => hk, fun p hp => (h.tags p hp).mono fun _ hk _ => hk⟩
/-- What the walk reads of an item. -/
theorem ItsAt.item {S : Nat → Prop} {w : World} {v : Value} {l : List (It × Value)} (h : ItsAt S w v l) {k : Nat} {i : It} {tv : Value} (hk : l[k]? = some (i, tv)) :
    ∃ g off cap, v = .slice (some ⟨g, off, none⟩) l.length cap ∧ g < w.heap.size ∧ S g ∧ VRow S 1 intO w tv i.r.tags ∧ w.cell? ⟨g, off + k * 12, none⟩ = some (.int .i64 i.kind) ∧ w.cell? ⟨g, off + k * 12 + 1, none⟩ = some (.int .i64 i.seq.1) ∧ w.cell? ⟨g, off + k * 12 + 2, none⟩ = some (.int .i64 i.seq.2) ∧
      w.cell? ⟨g, off + k * 12 + 3, none⟩ = some (.int .i64 i.r.id.1) ∧ w.cell? ⟨g, off + k * 12 + 4, none⟩ = some (.int .i64 i.r.id.2) ∧ w.cell? ⟨g, off + k * 12 + 5, none⟩ = some tv ∧ w.cell? ⟨g, off + k * 12 + 6, none⟩ = some (.string i.r.data) ∧ w.cell? ⟨g, off + k * 12 + 7, none⟩ = some (.int .i64 i.tag) ∧
      w.cell? ⟨g, off + k * 12 + 8, none⟩ = some (.int .i64 i.upto.1) ∧ w.cell? ⟨g, off + k * 12 + 9, none⟩ = some (.int .i64 i.upto.2) ∧ w.cell? ⟨g, off + k * 12 + 10, none⟩ = some (.int .i64 i.far.1) ∧ w.cell? ⟨g, off + k * 12 + 11, none⟩ = some (.int .i64 i.far.2) := by
  obtain ⟨a, cap, rfl, h2, h3, h4⟩ := h.row
  obtain ⟨g, off, e, hg, hS, hat⟩ := h4 k _ hk
  refine ⟨g, off, cap, by rw [e], hg, hS, h.tags _ (List.mem_of_getElem? hk), ?_, ?_, ?_, ?_, ?_, ?_, ?_, ?_, ?_, ?_, ?_, ?_⟩
  · simpa using hat 0 _ rfl
  · simpa [Nat.add_assoc] using hat 1 _ rfl
  · simpa [Nat.add_assoc] using hat 2 _ rfl
  · simpa [Nat.add_assoc] using hat 3 _ rfl
  · simpa [Nat.add_assoc] using hat 4 _ rfl
  · simpa [Nat.add_assoc] using hat 5 _ rfl
  · simpa [Nat.add_assoc] using hat 6 _ rfl
  · simpa [Nat.add_assoc] using hat 7 _ rfl
  · simpa [Nat.add_assoc] using hat 8 _ rfl
  · simpa [Nat.add_assoc] using hat 9 _ rfl
  · simpa [Nat.add_assoc] using hat 10 _ rfl
  · simpa [Nat.add_assoc] using hat 11 _ rfl
end Go.Proofs.Ytpdibjaeopcimaa
