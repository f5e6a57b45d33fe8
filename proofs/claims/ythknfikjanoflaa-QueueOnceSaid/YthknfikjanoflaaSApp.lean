/- append of any row of texts behind texts of one's own. -/
import Derived.Test.YthknfikjanoflaaSRow
import Derived.Test.YthknfikjanoflaaOpen
import Derived.Deep.Upon
set_option linter.unusedVariables false
set_option linter.unusedSimpArgs false
namespace Go.Proofs.Ythknfikjanoflaa
open Go.RowKit

def oS (s : ByteArray) : List Value := [.string s]
theorem append_strs (base : Nat) (v : Value) (pre : List ByteArray) (a : Option Addr) (cap : Nat) (xs : List ByteArray) (w : World) (hv : SRow w base v pre) (ro : RowAt w a 1 oS xs) (hbase : base ≤ w.heap.size) (hlen : pre.length + xs.length ≤ 4194304) :
    ∃ v' w', (Builtin.append_ #[38, 38] 38 #[v, .slice a xs.length cap]).run Try.prog w = .ok v' w' ∧ SRow w' base v' (pre ++ xs) ∧ w.grownBy w' v.ownBlock := by
  obtain ⟨i0, hinfo, hz0, hz1, hz2⟩ := info_parts infoStr
  cases a with
  | none =>
    have : xs = [] := by
      cases xs with
      | nil => rfl
      | cons x l => obtain ⟨b, off, h, _⟩ := ro 0 x rfl; cases h
    subst this
    obtain ⟨a1, cap1, rfl, hc⟩ := hv.slice
    refine ⟨_, w, run_append_nothing (P := Try.prog) w 38 38 38 9 i0 Try.underlying38 hinfo a1 _ _ hc _ (Src.ofNil w Try.underlying38 cap), by rw [List.append_nil]; exact hv, ⟨rfl, rfl, rfl, Nat.le_refl _, fun _ _ _ => rfl⟩⟩
  | some ad =>
    obtain ⟨v', w', h1, h2, h3, _⟩ := run_append_own_at (P := Try.prog) w base 38 38 9 i0 (.string ⟨#[]⟩) 1 16 Try.underlying38 hinfo hz0 hz1 hz2 rfl (by decide) v pre.length (pre.map Value.string) hv ad xs.length cap (xs.map Value.string) (by simp) (by
      intro j u hu
      rw [List.getElem?_map] at hu
      obtain ⟨x, hx, rfl⟩ := Option.map_eq_some_iff.1 hu
      obtain ⟨b, off, h, _, hc⟩ := ro j x hx
      cases h
      have h2 := hc 0 (.string x) rfl
      unfold Addr.add
      split
      · rename_i h0
        subst h0
        simpa using h2
      · simpa using h2) (by intro u hu; obtain ⟨x, _, rfl⟩ := List.mem_map.1 hu; rfl) (by unfold maxLen; omega) (by omega) hbase
    refine ⟨v', w', h1, ?_, h3⟩
    unfold SRow
    rw [List.length_append, List.map_append]
    exact h2

theorem wpList_append_strs {w : World} {ops : Array Oper} {rest : List Oper} {o : Oper} {a : Act} {Q : Exit → Act → World → Prop} (hgd : o.guard = none) (s x : Operand)
    (ho : o.op = .call { callee := .builtin .append, args := #[s, x], argTypes := #[38, 38] }) (hty : o.type = 38) {base : Nat} {v : Value} {pre xs : List ByteArray} {ad : Option Addr} {cap : Nat} (hs : a.eval s = v) (hx : a.eval x = .slice ad xs.length cap)
    (hv : SRow w base v pre) (ro : RowAt w ad 1 oS xs) (hbase : base ≤ w.heap.size) (hlen : pre.length + xs.length ≤ 4194304)
    (h : ∀ v' w', SRow w' base v' (pre ++ xs) → w.grownBy w' v.ownBlock → wpList Try.prog ops Q rest (a.put o.dst v') w') : wpList Try.prog ops Q (o :: rest) a w := by
  refine wpList_plain hgd fun K hK => ?_
  obtain ⟨v', w', hr, h2, h3⟩ := append_strs base v pre ad cap xs w hv ro hbase hlen
  unfold Oper.wp execOp
  simp only [ho, hty, resolve, invoke, builtin, Sem.run_bind, Sem.run_pure, Result.andThen_ok, List.map_toArray, List.map_cons, List.map_nil, hs, hx, hr]
  exact hK _ _ (h v' w' h2 h3)

theorem SRow.row {w : World} {base : Nat} {v : Value} {xs : List ByteArray} (h : SRow w base v xs) : ∃ a cap, v = .slice a xs.length cap ∧ RowAt w a 1 oS xs := by
  rcases h.2 with ⟨hv, h0⟩ | ⟨g, cap, cur, hv, hg, hh, hn, hc, hsz, htake⟩
  · have : xs = [] := List.length_eq_zero_iff.1 h0
    subst this
    exact ⟨none, 0, hv, fun i x hx => by simp at hx⟩
  · subst hv
    refine ⟨_, _, rfl, fun i x hx => ⟨g, 0, rfl, lt_of_block hh, fun j v hj => ?_⟩⟩
    have hi := (List.getElem?_eq_some_iff.1 hx).1
    match j, hj with
    | 0, hj =>
      have := h.cellAt (i * 1 + 0) (by omega)
      rw [show 0 + (i * 1 + 0) = i * 1 + 0 by omega, this]
      simp [hx]
      simpa [oS] using hj
    | j + 1, hj => simp [oS] at hj

end Go.Proofs.Ythknfikjanoflaa
