/- The reference's sessions in a row of its own; the plain laws of such rows. -/
import Derived.Test.YtjilfmphdncapaaSesDoesF
set_option linter.unusedVariables false
set_option linter.unusedSimpArgs false
namespace Go.Proofs.Ytjilfmphdncapaa
open Go.RowKit

def Sn.out (s : Sn) : List Value := [.int .i64 s.c, .int .i64 s.m, .int .i64 s.t, .int .i64 s.n]

theorem flat_len {α : Type} {out : α → List Value} {sz : Nat} (h : ∀ x, (out x).length = sz) : ∀ xs : List α, (xs.flatMap out).length = xs.length * sz
  | [] => by simp
  | x :: xs => by rw [List.flatMap_cons, List.length_append, h, flat_len h xs, List.length_cons, Nat.succ_mul]; omega
theorem flat_get {α : Type} {out : α → List Value} {sz : Nat} (h : ∀ x, (out x).length = sz) {j : Nat} (hj : j < sz) : ∀ (xs : List α) (i : Nat) (x : α), xs[i]? = some x → (xs.flatMap out)[i * sz + j]? = (out x)[j]?
  | [], i, x, hx => by simp at hx
  | y :: ys, 0, x, hx => by
    simp at hx
    subst hx
    rw [List.flatMap_cons, Nat.zero_mul, Nat.zero_add, List.getElem?_append_left (by rw [h]; exact hj)]
  | y :: ys, i + 1, x, hx => by
    rw [List.flatMap_cons, List.getElem?_append_right (by rw [h, Nat.succ_mul]; omega), h]
    have : (i + 1) * sz + j - sz = i * sz + j := by rw [Nat.succ_mul]; omega
    rw [this]
    exact flat_get h hj ys i x (by simpa using hx)
theorem flat_set4 {α : Type} {out : α → List Value} (h : ∀ x, (out x).length = 4) {s : α} {a b c d : Value} (hs : out s = [a, b, c, d]) : ∀ (xs : List α) (i : Nat), i < xs.length →
    (((((xs.flatMap out).set (i * 4) a).set (i * 4 + 1) b).set (i * 4 + 2) c).set (i * 4 + 3) d) = (xs.set i s).flatMap out
  | [], i, hi => by simp at hi
  | y :: ys, 0, _ => by
    obtain ⟨p, q, r, u, hy⟩ : ∃ p q r u, out y = [p, q, r, u] := by
      have := h y
      match h2 : out y, this with
      | [p, q, r, u], _ => exact ⟨p, q, r, u, rfl⟩
    simp [hy, hs]
  | y :: ys, i + 1, hi => by
    have ih := flat_set4 h hs ys i (by simpa using hi)
    have e : ∀ k, (i + 1) * 4 + k = 4 + (i * 4 + k) := by intro k; omega
    have e0 : (i + 1) * 4 = 4 + i * 4 := by omega
    have sp : ∀ (l : List Value) (k : Nat) (u : Value), (out y ++ l).set (4 + k) u = out y ++ l.set k u := by
      intro l k u
      rw [List.set_append_right _ _ (by rw [h]; omega), h]
      congr 2
      omega
    rw [List.flatMap_cons, e 1, e 2, e 3, e0, sp, sp, sp, sp, ih]
    simp

theorem Sn.out_len (s : Sn) : s.out.length = 4 := rfl

/-- The reference's sessions. -/
structure RefRow (w : World) (base : Nat) (v : Value) (sts : List Sn) : Prop where
  own : w.ownsRow base 36 4 v sts.length (sts.flatMap Sn.out)

theorem RefRow.below {w w1 : World} {base : Nat} {v : Value} {sts : List Sn} (h : RefRow w base v sts) {S : Nat → Prop} (hc : Ch S w w1) (hv : ∀ g, v.ownBlock = some g → ¬ S g) : RefRow w1 base v sts :=
  ⟨h.own.1, by
    rcases h.own.2 with h2 | ⟨g, cap, cur, e, hg, hh, r⟩
    · exact .inl h2
    · exact .inr ⟨g, cap, cur, e, hg, (hc.block g (lt_of_block hh) (hv g (by rw [e]; rfl))).trans hh, r⟩⟩

/-- What the walk reads of a session of the reference's row. -/
theorem RefRow.at {w : World} {base : Nat} {v : Value} {sts : List Sn} (h : RefRow w base v sts) {i : Nat} {s : Sn} (hi : sts[i]? = some s) :
    ∃ g cap, v = .slice (some ⟨g, 0, none⟩) sts.length cap ∧ g < w.heap.size ∧ base ≤ g ∧ (∀ j, j < 4 → w.cell? ⟨g, i * 4 + j, none⟩ = s.out[j]?) ∧ (∀ j, w.frozen? ⟨g, j, none⟩ = false) := by
  have hlt := (List.getElem?_eq_some_iff.1 hi).1
  rcases h.own.2 with ⟨_, h0⟩ | ⟨g, cap, cur, hv, hg, hh, hn, hc, hsz, htake⟩
  · omega
  · subst hv
    exact ⟨g, cap, rfl, lt_of_block hh, hg, fun j hj => by rw [h.own.cellAt (i * 4 + j) (by omega)]; exact flat_get Sn.out_len hj sts i s hi, h.own.frozenAt⟩

/-- One session is written anew. -/
theorem RefRow.set {w : World} {base g cap : Nat} {sts : List Sn} (h : RefRow w base (.slice (some ⟨g, 0, none⟩) sts.length cap) sts) {i : Nat} (hi : i < sts.length) (s : Sn) :
    RefRow ((((w.setCell ⟨g, i * 4, none⟩ (.int .i64 s.c)).setCell ⟨g, i * 4 + 1, none⟩ (.int .i64 s.m)).setCell ⟨g, i * 4 + 2, none⟩ (.int .i64 s.t)).setCell ⟨g, i * 4 + 3, none⟩ (.int .i64 s.n)) base (.slice (some ⟨g, 0, none⟩) sts.length cap) (sts.set i s) :=
  ⟨by
    have h1 := (h.own.stored (i * 4) (.int .i64 s.c)).1
    have h2 := (h1.stored (i * 4 + 1) (.int .i64 s.m)).1
    have h3 := (h2.stored (i * 4 + 2) (.int .i64 s.t)).1
    have h4 := (h3.stored (i * 4 + 3) (.int .i64 s.n)).1
    rw [flat_set4 Sn.out_len (s := s) rfl sts i hi] at h4
    simpa using h4⟩
theorem RefRow.alloc {w : World} {base : Nat} {v : Value} {sts : List Sn} (h : RefRow w base v sts) (o : Obj) : RefRow (w.alloc o) base v sts := ⟨h.own.alloc o⟩
theorem RefRow.drew {w : World} {base : Nat} {v : Value} {sts : List Sn} (h : RefRow w base v sts) : RefRow w.drew base v sts := ⟨h.own⟩
theorem RefRow.far {w : World} {base g n cap : Nat} {sts : List Sn} {p : Addr} {u : Value} (hp : g ≠ p.block) (h : RefRow w base (.slice (some ⟨g, 0, none⟩) n cap) sts) : RefRow (w.setCell p u) base (.slice (some ⟨g, 0, none⟩) n cap) sts :=
  h.below ((Ch.refl (· = p.block) w).set (.inr rfl) u) (fun k hk e => hp (Eq.trans (show g = k by simpa [Value.ownBlock] using hk) e))
theorem RefRow.set' {w : World} {base g cap : Nat} {sts : List Sn} {i : Nat} {a b c d : Int} (hi : i < sts.length) (h : RefRow w base (.slice (some ⟨g, 0, none⟩) sts.length cap) sts) :
    RefRow ((((w.setCell ⟨g, i * 4, none⟩ (.int .i64 a)).setCell ⟨g, i * 4 + 1, none⟩ (.int .i64 b)).setCell ⟨g, i * 4 + 2, none⟩ (.int .i64 c)).setCell ⟨g, i * 4 + 3, none⟩ (.int .i64 d)) base (.slice (some ⟨g, 0, none⟩) sts.length cap) (sts.set i ⟨a, b, c, d⟩) :=
  h.set hi ⟨a, b, c, d⟩
end Go.Proofs.Ytjilfmphdncapaa
