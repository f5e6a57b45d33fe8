/- append of any row of bytes behind bytes of one's own. -/
import Derived.Test.YtlombcclglffgaaPkWrite
import Derived.Deep.Upon
set_option linter.unusedVariables false
set_option linter.unusedSimpArgs false
namespace Go.Proofs.Ytlombcclglffgaa
open Go.RowKit

theorem BRow.slice {w : World} {base : Nat} {v : Value} {bs : List Nat} (h : BRow w base v bs) : ∃ a cap, v = .slice a bs.length cap ∧ bs.length ≤ cap := by
  rcases h.2 with ⟨hv, h0⟩ | ⟨g, cap, cur, hv, hg, hh, hn, _⟩
  · exact ⟨none, 0, by rw [hv, h0], by omega⟩
  · exact ⟨_, cap, hv, hn⟩

theorem append_bytes (base : Nat) (v : Value) (pre : List Nat) (a : Option Addr) (cap : Nat) (bs : List Nat) (w : World) (hv : BRow w base v pre) (ro : RowAt w a 1 b1 bs) (hbase : base ≤ w.heap.size) (hlen : pre.length + bs.length ≤ 70368744177664) :
    ∃ v' w', (Builtin.append_ #[22, 22] 22 #[v, .slice a bs.length cap]).run Try.prog w = .ok v' w' ∧ BRow w' base v' (pre ++ bs) ∧ w.grownBy w' v.ownBlock := by
  obtain ⟨i0, hinfo, hz0, hz1, hz2⟩ := info_parts infoByte
  cases a with
  | none =>
    have : bs = [] := by
      cases bs with
      | nil => rfl
      | cons x l => obtain ⟨b, off, h, _⟩ := ro 0 x rfl; cases h
    subst this
    obtain ⟨a1, cap1, rfl, hc⟩ := hv.slice
    refine ⟨_, w, run_append_nothing (P := Try.prog) w 22 22 22 5 i0 Try.underlying22 hinfo a1 _ _ hc _ (Src.ofNil w Try.underlying22 cap), by rw [List.append_nil]; exact hv, ⟨rfl, rfl, rfl, Nat.le_refl _, fun _ _ _ => rfl⟩⟩
  | some ad =>
    obtain ⟨v', w', h1, h2, h3, _⟩ := run_append_own_at (P := Try.prog) w base 22 22 5 i0 (.int .u8 0) 1 1 Try.underlying22 hinfo hz0 hz1 hz2 rfl (by decide) v pre.length (pre.map by8) hv ad bs.length cap (bs.map by8) (by simp) (by
      intro j u hu
      rw [List.getElem?_map] at hu
      obtain ⟨x, hx, rfl⟩ := Option.map_eq_some_iff.1 hu
      obtain ⟨b, off, h, _, hc⟩ := ro j x hx
      cases h
      have h2 := hc 0 (by8 x) rfl
      unfold Addr.add
      split
      · rename_i h0
        subst h0
        simpa using h2
      · simpa using h2) (by intro u hu; obtain ⟨x, _, rfl⟩ := List.mem_map.1 hu; rfl) (by unfold maxLen; omega) (by omega) hbase
    refine ⟨v', w', h1, ?_, h3⟩
    unfold BRow
    rw [List.length_append, List.map_append]
    exact h2

theorem wpList_append_bytes {w : World} {ops : Array Oper} {rest : List Oper} {o : Oper} {a : Act} {Q : Exit → Act → World → Prop} (hgd : o.guard = none) (s x : Operand)
    (ho : o.op = .call { callee := .builtin .append, args := #[s, x], argTypes := #[22, 22] }) (hty : o.type = 22) {base : Nat} {v : Value} {pre bs : List Nat} {ad : Option Addr} {cap : Nat} (hs : a.eval s = v) (hx : a.eval x = .slice ad bs.length cap)
    (hv : BRow w base v pre) (ro : RowAt w ad 1 b1 bs) (hbase : base ≤ w.heap.size) (hlen : pre.length + bs.length ≤ 70368744177664)
    (h : ∀ v' w', BRow w' base v' (pre ++ bs) → w.grownBy w' v.ownBlock → wpList Try.prog ops Q rest (a.put o.dst v') w') : wpList Try.prog ops Q (o :: rest) a w := by
  refine wpList_plain hgd fun K hK => ?_
  obtain ⟨v', w', hr, h2, h3⟩ := append_bytes base v pre ad cap bs w hv ro hbase hlen
  unfold Oper.wp execOp
  simp only [ho, hty, resolve, invoke, builtin, Sem.run_bind, Sem.run_pure, Result.andThen_ok, List.map_toArray, List.map_cons, List.map_nil, hs, hx, hr]
  exact hK _ _ (h v' w' h2 h3)
end Go.Proofs.Ytlombcclglffgaa
