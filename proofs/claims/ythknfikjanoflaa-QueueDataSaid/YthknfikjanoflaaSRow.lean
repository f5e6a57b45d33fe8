/- Rows of texts of one's own. -/
import Derived.Test.YthknfikjanoflaaProg
import Derived.Test.YthknfikjanoflaaChecked
import Derived.Test.YthknfikjanoflaaBase
import Derived.OwnWalk
import Derived.Deep.AppendLies
set_option linter.unusedVariables false
set_option linter.unusedSimpArgs false
namespace Go.Proofs.Ythknfikjanoflaa
open Go.RowKit

/-- A row of texts of one's own. -/
def SRow (w : World) (base : Nat) (v : Value) (xs : List ByteArray) : Prop := w.ownsRow base 9 1 v xs.length (xs.map Value.string)

theorem SRow.ch {w w1 : World} {base : Nat} {v : Value} {bs : List ByteArray} {S : Nat → Prop} (h : SRow w base v bs) (hc : Ch S w w1) (hv : ∀ g, v.ownBlock = some g → ¬ S g) : SRow w1 base v bs :=
  ⟨h.1, by
    rcases h.2 with h2 | ⟨g, cap, cur, e, hg, hh, r⟩
    · exact .inl h2
    · exact .inr ⟨g, cap, cur, e, hg, (hc.block g (lt_of_block hh) (hv g (by rw [e]; rfl))).trans hh, r⟩⟩
theorem SRow.slice {w : World} {base : Nat} {v : Value} {bs : List ByteArray} (h : SRow w base v bs) : ∃ a cap, v = .slice a bs.length cap ∧ bs.length ≤ cap := by
  rcases h.2 with ⟨hv, h0⟩ | ⟨g, cap, cur, hv, hg, hh, hn, _⟩
  · exact ⟨none, 0, by rw [hv, h0], by omega⟩
  · exact ⟨_, cap, hv, hn⟩
theorem SRow.at {w : World} {base : Nat} {v : Value} {bs : List ByteArray} (h : SRow w base v bs) {i : Nat} {s : ByteArray} (hi : bs[i]? = some s) : ∃ g cap, v = .slice (some ⟨g, 0, none⟩) bs.length cap ∧ w.cell? ⟨g, i, none⟩ = some (.string s) := by
  rcases h.2 with ⟨hv, h0⟩ | ⟨g, cap, cur, hv, hg, hh, hn, hc, hsz, htake⟩
  · have : bs = [] := List.length_eq_zero_iff.1 h0
    subst this
    cases hi
  · subst hv
    have hl := (List.getElem?_eq_some_iff.1 hi).1
    refine ⟨g, cap, rfl, ?_⟩
    rw [h.cellAt i (by omega)]
    simp [hi]
theorem SRow.own {w : World} {base : Nat} {v : Value} {bs : List ByteArray} (h : SRow w base v bs) {g : Nat} (e : v.ownBlock = some g) : base ≤ g ∧ g < w.heap.size := by
  rcases h.2 with ⟨h2, _⟩ | ⟨g3, cap3, cur3, hv3, hg3, hh, _⟩
  · rw [h2] at e; simp [Value.ownBlock] at e
  · rw [hv3] at e
    obtain rfl : g3 = g := by simpa [Value.ownBlock] using e
    exact ⟨hg3, lt_of_block hh⟩
theorem SRow.nil (w : World) (base : Nat) : SRow w base (.slice none 0 0) [] := World.ownsRow_nil _ _ _ _

theorem infoStr : (Try.prog.info? 9).map (fun i => (i.zero, i.size, i.bytes)) = some (some (.string ⟨#[]⟩), 1, 16) := by kernel_rfl
/-- One text is appended. -/
theorem wpList_append_str {w : World} {ops : Array Oper} {rest : List Oper} {o : Oper} {a : Act} {Q : Exit → Act → World → Prop} (hgd : o.guard = none) (s x : Operand)
    (ho : o.op = .call { callee := .builtin .append, args := #[s, x], argTypes := #[38, 38] }) {base p : Nat} {v : Value} {pre : List ByteArray} {d : ByteArray} (hs : a.eval s = v) (hx : a.eval x = .slice (some ⟨p, 0, none⟩) 1 1)
    (hv : SRow w base v pre) (hb : Blk w p #[.string d] 9) (hbase : base ≤ w.heap.size) (hlen : pre.length ≤ 4194304)
    (h : ∀ g cap w', SRow w' base (.slice (some ⟨g, 0, none⟩) (pre.length + 1) cap) (pre ++ [d]) → w.grownBy w' v.ownBlock → (v.ownBlock = some g ∨ g = w.heap.size) → g < w'.heap.size → wpList Try.prog ops Q rest (a.put o.dst (.slice (some ⟨g, 0, none⟩) (pre.length + 1) cap)) w') : wpList Try.prog ops Q (o :: rest) a w := by
  obtain ⟨i0, hinfo, hz0, hz1, hz2⟩ := info_parts infoStr
  refine wpList_append_lies _ hgd s x 38 ho base 9 i0 (.string ⟨#[]⟩) 1 16 Try.underlying38 hinfo hz0 hz1 hz2 rfl (by decide) v pre.length (pre.map Value.string) hs hv ⟨p, 0, none⟩ 1 1 [.string d] hx rfl (World.news_of_block hb) (by intro u hu; simp at hu; subst hu; rfl) (by decide) (by unfold maxLen; omega) (by omega) hbase w.heap.size rfl ?_
  intro g cap w' h1 h2 h3 h4
  refine h g cap w' ?_ h2 h3 h4
  unfold SRow
  rw [List.length_append, List.map_append]
  exact h1
theorem step_append_str {w : World} {ops : Array Oper} {o : Oper} {a : Act} {K : Act → World → Prop} {Q : Exit → Act → World → Prop} {E : Prop} (hgd : o.guard = none) (s x : Operand)
    (ho : o.op = .call { callee := .builtin .append, args := #[s, x], argTypes := #[38, 38] }) {base p : Nat} {v : Value} {pre : List ByteArray} {d : ByteArray} (hs : a.eval s = v) (hx : a.eval x = .slice (some ⟨p, 0, none⟩) 1 1)
    (hv : SRow w base v pre) (hb : Blk w p #[.string d] 9) (hbase : base ≤ w.heap.size) (hlen : pre.length ≤ 4194304)
    (h : ∀ g cap w', SRow w' base (.slice (some ⟨g, 0, none⟩) (pre.length + 1) cap) (pre ++ [d]) → w.grownBy w' v.ownBlock → (v.ownBlock = some g ∨ g = w.heap.size) → g < w'.heap.size → K (a.put o.dst (.slice (some ⟨g, 0, none⟩) (pre.length + 1) cap)) w') : if Region.wanted o (yielded ops a.tmps) = true then Oper.wp Try.prog o a w K Q else E := by
  obtain ⟨i0, hinfo, hz0, hz1, hz2⟩ := info_parts infoStr
  refine step_append_lies _ hgd s x 38 ho base 9 i0 (.string ⟨#[]⟩) 1 16 Try.underlying38 hinfo hz0 hz1 hz2 rfl (by decide) v pre.length (pre.map Value.string) hs hv ⟨p, 0, none⟩ 1 1 [.string d] hx rfl (World.news_of_block hb) (by intro u hu; simp at hu; subst hu; rfl) (by decide) (by unfold maxLen; omega) (by omega) hbase w.heap.size rfl ?_
  intro g cap w' h1 h2 h3 h4
  refine h g cap w' ?_ h2 h3 h4
  unfold SRow
  rw [List.length_append, List.map_append]
  exact h1
end Go.Proofs.Ythknfikjanoflaa
