/- index's laws: alive. -/
import Derived.Test.YtpdibjaeopcimaaIl
set_option linter.unusedVariables false
set_option linter.unusedSimpArgs false
namespace Go.Proofs.Ytpdibjaeopcimaa
open Go.RowKit

theorem Ix.grow {G : Nat → Prop} {w w1 : World} {x : Nat} {st : XSt} (h : Ix G w x st) (hb : Below w.heap.size w w1) : ∃ G', Ix G' w1 x st ∧ (∀ k, G k → G' k) ∧ (∀ k, w.heap.size ≤ k → k < w1.heap.size → G' k) :=
  ⟨_, h.below hb, fun _ e => .inl e, fun _ h1 h2 => .inr ⟨h1, h2⟩⟩
/-- What a call that began at w did so far: it holds an index. -/
structure Run (w : World) (G : Nat → Prop) (w1 : World) (x : Nat) (st : XSt) : Prop where
  ix : Ix G w1 x st
  good : GoodX st
  old : ∀ k, k < w.heap.size → G k
  ch : Below w.heap.size w w1
theorem Run.grow {w : World} {G : Nat → Prop} {w1 w2 : World} {x : Nat} {st : XSt} (h : Run w G w1 x st) (hb : Below w1.heap.size w1 w2) : ∃ G', Run w G' w2 x st ∧ (∀ k, G k → G' k) ∧ (∀ k, w1.heap.size ≤ k → k < w2.heap.size → G' k) := by
  obtain ⟨G', h1, h2, h3⟩ := h.ix.grow hb
  exact ⟨G', ⟨h1, h.good, fun k hk => h2 k (h.old k hk), h.ch.trans (hb.mono h.ch.size)⟩, h2, h3⟩
theorem Run.below {w : World} {G : Nat → Prop} {w1 w2 : World} {x : Nat} {st : XSt} (h : Run w G w1 x st) (hb : Below w1.heap.size w1 w2) : Run w G w2 x st := ⟨h.ix.below' hb, h.good, h.old, h.ch.trans (hb.mono h.ch.size)⟩
theorem Run.lt {w : World} {G : Nat → Prop} {w1 : World} {x : Nat} {st : XSt} (h : Run w G w1 x st) {k : Nat} (hk : G k) : k < w1.heap.size := by
  obtain ⟨c, rv, mt, mi, mm, rws, _, h2⟩ := h.ix
  exact (h2 k hk).1
theorem Run.apply {w : World} {G S : Nat → Prop} {w1 : World} {x : Nat} {st : XSt} (h : Run w G w1 x st) (i : It) (tv : Value) (htv : VRow S 1 intO w1 tv i.r.tags) (hSG : ∀ k, S k → G k) (hm : st.rows.length ≤ 4000000) (ha : st.applied ≤ 4000000) (htl : i.r.tags.length ≤ 140737488351232) {r : XSt × Int} (hr : applyX st i = r) :
    Calls Try.prog 35 #[.pointer (some ⟨x, 0, none⟩), itemV i tv] w1 fun e w' => e = .returned (.int .i64 r.2) ∧ Run w G w' x r.1 ∧ Ch (fun k => ¬ G k) w1 w' := by
  subst hr
  refine (apply_any i tv w1 h.ix h.good htv hm ha hSG (fun k hk => h.lt hk) htl).mono fun e w' ⟨h1, h2, h3⟩ => ⟨h1, ⟨h2, good_apply h.good i, h.old, ?_⟩, h3⟩
  exact Ch.below ((Ch.of_below (fun _ => False) h.ch).step h3 (fun k hk e => e (h.old k hk)))
theorem Run.new {w w1 : World} {e : Ending} (h : NewXPost w e w1) : ∃ x G, e = .returned (.pointer (some ⟨x, 0, none⟩)) ∧ Run w G w1 x xst0 := by
  obtain ⟨x, rfl, h1, h2⟩ := h
  exact ⟨x, _, rfl, h1, good0, fun k hk => hk, h2⟩
/-- .. where more was done ahead of it. -/
theorem Run.from {w w0 w1 : World} {G : Nat → Prop} {x : Nat} {st : XSt} (hb : Below w.heap.size w w0) (h : Run w0 G w1 x st) : Run w G w1 x st := ⟨h.ix, h.good, fun k hk => h.old k (Nat.lt_of_lt_of_le hk hb.size), hb.trans (h.ch.mono hb.size)⟩

end Go.Proofs.Ytpdibjaeopcimaa
