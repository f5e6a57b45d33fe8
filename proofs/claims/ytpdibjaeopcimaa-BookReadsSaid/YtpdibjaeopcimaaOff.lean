/- Rows of elements of one's own that begin anywhere in their block: append behind, cut ahead. -/
import Derived.Test.YtpdibjaeopcimaaBase
import Derived.ArgAppend
import Derived.Deep.MidRow
import Derived.Deep.AppendLies
set_option linter.unusedVariables false
set_option linter.unusedSimpArgs false
namespace Go.Proofs.Ytpdibjaeopcimaa
open Go.RowKit

section
variable {P : Program} {α : Type}

/-- A row of one's own: each element written out by 'out' (sz cells). -/
def ORow (sz : Nat) (out : α → List Value) (w : World) (base : Nat) (v : Value) (xs : List α) : Prop :=
  (v = .slice none 0 0 ∧ xs = []) ∨ ∃ g off cap, v = .slice (some ⟨g, off, none⟩) xs.length cap ∧ base ≤ g ∧ g < w.heap.size ∧ xs.length ≤ cap ∧ cap ≤ maxLen ∧ w.there g off (cap * sz) ∧ w.rangeAt g off (xs.flatMap out)

variable {sz : Nat} {out : α → List Value}
theorem ORow.nil (w : World) (base : Nat) : ORow sz out w base (.slice none 0 0) [] := .inl ⟨rfl, rfl⟩
theorem ORow.own {w : World} {base : Nat} {v : Value} {xs : List α} (h : ORow sz out w base v xs) {g : Nat} (e : v.ownBlock = some g) : base ≤ g ∧ g < w.heap.size := by
  rcases h with ⟨h2, _⟩ | ⟨g3, off, cap, hv, h1, h2, _⟩
  · rw [h2] at e; simp [Value.ownBlock] at e
  · rw [hv] at e
    obtain rfl : g3 = g := by simpa [Value.ownBlock] using e
    exact ⟨h1, h2⟩
theorem ORow.slice {w : World} {base : Nat} {v : Value} {xs : List α} (h : ORow sz out w base v xs) : ∃ a cap, v = .slice a xs.length cap ∧ xs.length ≤ cap ∧ cap ≤ maxLen := by
  rcases h with ⟨h2, h3⟩ | ⟨g3, off, cap, hv, h1, h2, h3, h4, _⟩
  · exact ⟨none, 0, by rw [h2, h3]; rfl, by rw [h3]; simp, by simp [maxLen]⟩
  · exact ⟨_, cap, hv, h3, h4⟩
theorem there_of_block {w w1 : World} {g o n : Nat} (h : w.there g o n) (hb : w1.heap[g]? = w.heap[g]?) : w1.there g o n := fun j hj => by
  rw [World.cell?_of_block (w := w) (w' := w1) (a := ⟨g, o + j, none⟩) hb, World.frozen?_of_block (w := w) (w' := w1) (a := ⟨g, o + j, none⟩) hb]
  exact h j hj
theorem range_of_block {w w1 : World} {g o : Nat} {cs : List Value} (h : w.rangeAt g o cs) (hb : w1.heap[g]? = w.heap[g]?) : w1.rangeAt g o cs := fun j v hv => by
  rw [World.cell?_of_block (w := w) (w' := w1) (a := ⟨g, o + j, none⟩) hb]
  exact h j v hv
theorem ORow.ch {S : Nat → Prop} {w w1 : World} {base : Nat} {v : Value} {xs : List α} (h : ORow sz out w base v xs) (hc : Ch S w w1) (hn : ∀ g, v.ownBlock = some g → ¬ S g) : ORow sz out w1 base v xs := by
  rcases h with h | ⟨g, off, cap, hv, h1, h2, h3, h4, h5, h6⟩
  · exact .inl h
  · have hb := hc.block g h2 (hn g (by rw [hv]; rfl))
    exact .inr ⟨g, off, cap, hv, h1, Nat.lt_of_lt_of_le h2 hc.size, h3, h4, there_of_block h5 hb, range_of_block h6 hb⟩
theorem ORow.below {w w1 : World} {base : Nat} {v : Value} {xs : List α} (h : ORow sz out w base v xs) (hb : Below w.heap.size w w1) : ORow sz out w1 base v xs := h.ch (Ch.of_below (fun _ => False) hb) (fun _ _ => id)

theorem flat_len (hout : ∀ x : α, (out x).length = sz) : ∀ xs : List α, (xs.flatMap out).length = xs.length * sz
  | [] => by simp
  | x :: xs => by
    simp only [List.flatMap_cons, List.length_append, hout, List.length_cons, flat_len hout xs]
    rw [Nat.add_mul, Nat.one_mul, Nat.add_comm]
theorem flat_at (hout : ∀ x : α, (out x).length = sz) : ∀ (xs : List α) (i : Nat) (x : α), xs[i]? = some x → ∀ j u, (out x)[j]? = some u → (xs.flatMap out)[i * sz + j]? = some u
  | [], i, x, h, _, _, _ => by simp at h
  | y :: xs, 0, x, h, j, u, hu => by
    simp at h
    subst h
    have hj := (List.getElem?_eq_some_iff.1 hu).1
    simp only [Nat.zero_mul, Nat.zero_add, List.flatMap_cons]
    rw [List.getElem?_append_left hj]
    exact hu
  | y :: xs, i + 1, x, h, j, u, hu => by
    have := flat_at hout xs i x (by simpa using h) j u hu
    simp only [List.flatMap_cons]
    rw [List.getElem?_append_right (by rw [hout, Nat.add_mul]; omega), hout, show (i + 1) * sz + j - sz = i * sz + j by rw [Nat.add_mul]; omega]
    exact this
/-- An element's cells. -/
theorem ORow.at (hout : ∀ x : α, (out x).length = sz) {w : World} {base : Nat} {v : Value} {xs : List α} (h : ORow sz out w base v xs) {i : Nat} {x : α} (hi : xs[i]? = some x) :
    ∃ g off cap, v = .slice (some ⟨g, off, none⟩) xs.length cap ∧ ∀ j u, (out x)[j]? = some u → w.cell? ⟨g, off + (i * sz + j), none⟩ = some u := by
  rcases h with ⟨h2, h3⟩ | ⟨g, off, cap, hv, h1, h2, h3, h4, h5, h6⟩
  · rw [h3] at hi; simp at hi
  · exact ⟨g, off, cap, hv, fun j u hu => h6 _ u (flat_at hout xs i x hi j u hu)⟩
/-- The first element is cut off: 'v[1:]'. -/
theorem ORow.cut (hout : ∀ x : α, (out x).length = sz) {w : World} {base : Nat} {v : Value} {x : α} {xs : List α} (h : ORow sz out w base v (x :: xs)) :
    ∃ g off cap, v = .slice (some ⟨g, off, none⟩) (xs.length + 1) (cap + 1) ∧ ORow sz out w base (.slice (some (if cap = 0 then ⟨g, off, none⟩ else ⟨g, off + sz, none⟩)) xs.length cap) xs := by
  rcases h with ⟨h2, h3⟩ | ⟨g, off, cap, hv, h1, h2, h3, h4, h5, h6⟩
  · cases h3
  · simp only [List.length_cons] at hv h3
    obtain ⟨c, rfl⟩ : ∃ c, cap = c + 1 := ⟨cap - 1, by omega⟩
    refine ⟨g, off, c, hv, .inr ?_⟩
    by_cases hc : c = 0
    · rw [if_pos hc]
      have hx : xs = [] := List.eq_nil_of_length_eq_zero (by omega)
      subst hx
      exact ⟨g, off, c, rfl, h1, h2, Nat.zero_le _, by omega, fun j hj => by rw [hc, Nat.zero_mul] at hj; omega, fun j u hu => by simp at hu⟩
    · rw [if_neg hc]
      refine ⟨g, off + sz, c, rfl, h1, h2, by omega, by omega, fun j hj => ?_, fun j u hu => ?_⟩
      · have := h5 (sz + j) (by rw [Nat.add_mul]; omega)
        rwa [← Nat.add_assoc] at this
      · have := h6 (sz + j) u (by
          simp only [List.flatMap_cons]
          rw [List.getElem?_append_right (by rw [hout]; omega), hout, show sz + j - sz = j by omega]
          exact hu)
        rwa [← Nat.add_assoc] at this

theorem setCells_block (b : Nat) : ∀ (vs : List Value) (o : Nat) (w : World), (w.setCells b o vs).heap.size = w.heap.size ∧ (w.setCells b o vs).os = w.os ∧ (w.setCells b o vs).tape = w.tape ∧ (w.setCells b o vs).output = w.output ∧ ∀ k, k ≠ b → (w.setCells b o vs).heap[k]? = w.heap[k]?
  | [], _, _ => ⟨rfl, rfl, rfl, rfl, fun _ _ => rfl⟩
  | v :: vs, o, w => by
    obtain ⟨h1, h2, h3, h4, h5⟩ := setCells_block b vs (o + 1) (w.setCell ⟨b, o, none⟩ v)
    refine ⟨h1.trans (by simp [World.setCell]), h2, h3, h4, fun k hk => (h5 k hk).trans (Below.heap_setCell _ _ _ _ (by simpa using hk))⟩

theorem ownsRow_there {w : World} {base : Nat} {e : TypeId} {g n cap : Nat} {xs : List Value} (h : w.ownsRow base e sz (.slice (some ⟨g, 0, none⟩) n cap) n xs) : base ≤ g ∧ g < w.heap.size ∧ n ≤ cap ∧ cap ≤ maxLen ∧ w.there g 0 (cap * sz) ∧ w.rangeAt g 0 xs := by
  have hc := h.cells (g := g) rfl
  rcases h.2 with ⟨h2, _⟩ | ⟨g2, cap2, cur, hv, hb, hh, hn, hm, hs, ht⟩
  · cases h2
  · cases hv
    refine ⟨hb, lt_of_block hh, hn, hm, fun j hj => ?_, fun j u hu => by have := hc j u hu; rwa [Addr.add_mid] at this⟩
    have hB : Blk w g cur e := hh
    rw [hB.cell, hB.free]
    refine ⟨?_, rfl⟩
    rw [Array.getElem?_eq_getElem (by omega)]
    rfl

/-- append of one element that lies at p. -/
theorem ORow.append' (hout : ∀ x : α, (out x).length = sz) (hsz : 0 < sz) {w : World} {base : Nat} {v : Value} {xs : List α} (h : ORow sz out w base v xs) {t ty e : TypeId} {i : TypeInfo} {z : Value} {bytes : Nat}
    (ht : P.underlying t = some (.slice e)) (hi : P.info? e = some i) (hz : i.zero = some z) (hs : i.size = sz) (hby : i.bytes = bytes) (hzs : z.cells.size = sz) {p : Nat} {x : α} (h1c : ∀ u ∈ out x, u.oneCell' = true) (hp : ∀ j u, (out x)[j]? = some u → w.cell? ⟨p, j, none⟩ = some u)
    (hbase : base ≤ w.heap.size) (h63 : xs.length + 1 ≤ maxLen) (hbytes : (xs.length + 1) * bytes ≤ 140737488355328) :
    ∃ g off cap w', (Builtin.append_ #[t, t] ty #[v, .slice (some ⟨p, 0, none⟩) 1 1]).run P w = .ok (.slice (some ⟨g, off, none⟩) (xs.length + 1) cap) w' ∧ ORow sz out w' base (.slice (some ⟨g, off, none⟩) (xs.length + 1) cap) (xs ++ [x]) ∧ w.grownBy w' v.ownBlock ∧ (v.ownBlock = some g ∨ w.heap.size ≤ g) := by
  have hnews : ∀ j u, (out x)[j]? = some u → w.cell? ((⟨p, 0, none⟩ : Addr).add j) = some u := fun j u hu => by rw [Addr.add_mid, Nat.zero_add]; exact hp j u hu
  have hl1 : (out x).length = 1 * sz := by rw [hout, Nat.one_mul]
  have hflat : (xs ++ [x]).flatMap out = xs.flatMap out ++ out x := by simp
  rcases h with ⟨rfl, rfl⟩ | ⟨g, off, cap, rfl, hg, hlt, hcap, hmax, hth, hra⟩
  · obtain ⟨g, cap, w', hr, h2, h3, h4, h5⟩ := run_append_lies (P := P) w t ty base e i z sz bytes ht hi hz hs hby hzs hsz (.slice none 0 0) 0 [] (World.ownsRow_nil _ _ _ _) ⟨p, 0, none⟩ 1 1 (out x) hl1 hnews h1c (by omega) (by simpa using h63) (by simpa using hbytes) hbase w.heap.size rfl
    obtain ⟨a1, a2, a3, a4, a5, a6⟩ := ownsRow_there h2
    exact ⟨g, 0, cap, w', hr, .inr ⟨g, 0, cap, rfl, a1, a2, a3, a4, a5, by simpa using a6⟩, h3, h4.imp id (fun e => by omega)⟩
  · by_cases hroom : xs.length + 1 ≤ cap
    · have hlt2 : ∀ j, j < (out x).length → xs.length * sz + j < cap * sz := fun j hj => by
        rw [hout] at hj
        have := Nat.mul_le_mul_right sz hroom
        rw [Nat.add_mul] at this
        omega
      have hr := run_append_room_cells (P := P) w t ty e i ht hi g off xs.length cap ⟨p, 0, none⟩ 1 1 (out x) (by rw [hs]; exact hl1) hnews h1c hroom
        (by intro j hj; rw [hs, Nat.add_assoc]; exact (hth _ (hlt2 j hj)).1) (by intro j hj; rw [hs, Nat.add_assoc]; exact (hth _ (hlt2 j hj)).2)
      obtain ⟨b1, b2, b3, b4, b5⟩ := setCells_block g (out x) (off + xs.length * i.size) w
      refine ⟨g, off, cap, _, hr, .inr ⟨g, off, cap, by simp, hg, by rw [b1]; exact hlt, by simpa using hroom, hmax, World.there_setCells hth g _ _, ?_⟩, ⟨b2, b3, b4, by rw [b1]; exact Nat.le_refl _, fun k _ hk => b5 k (fun e => hk (by rw [e]; rfl))⟩, .inl rfl⟩
      intro j u hu
      rw [hflat] at hu
      have hfl := flat_len hout xs
      by_cases hj : j < (xs.flatMap out).length
      · rw [List.getElem?_append_left hj] at hu
        rw [World.cell?_setCells_out]
        · exact hra j u hu
        · intro _ _
          left
          simp only
          rw [hs]
          omega
      · rw [List.getElem?_append_right (by omega)] at hu
        have h7 := World.rangeAt_setCells_same w g (off + xs.length * i.size) (out x) (fun k hk => by rw [hs, Nat.add_assoc]; exact hth _ (hlt2 k hk)) _ u hu
        rw [show off + xs.length * i.size + (j - (xs.flatMap out).length) = off + j by rw [hs]; omega] at h7
        exact h7
    · obtain ⟨v', w', hr, h2, h3⟩ := run_append_arg_grows (P := P) w t ty e i z sz bytes ht hi hz hs hby hzs hsz ⟨g, off, none⟩ xs.length cap (xs.flatMap out) (flat_len hout xs) (fun j u hu => by rw [Addr.add_mid]; exact hra j u hu) ⟨p, 0, none⟩ 1 1 (out x) hl1 hnews (by omega) h63 hbytes
      obtain ⟨g2, cap2, rfl, h5, h6⟩ := h2.form (by omega)
      obtain ⟨a1, a2, a3, a4, a5, a6⟩ := ownsRow_there h2
      exact ⟨g2, 0, cap2, w', hr, .inr ⟨g2, 0, cap2, by simp, by omega, a2, by simpa using a3, a4, a5, by rw [hflat]; exact a6⟩, ⟨h3.os, h3.tape, h3.output, h3.size, fun k hk _ => h3.block k hk (by simp)⟩, .inr h5⟩
theorem ORow.append (hout : ∀ x : α, (out x).length = sz) (h1c : ∀ x : α, ∀ u ∈ out x, u.oneCell' = true) (hsz : 0 < sz) {w : World} {base : Nat} {v : Value} {xs : List α} (h : ORow sz out w base v xs) {t ty e : TypeId} {i : TypeInfo} {z : Value} {bytes : Nat}
    (ht : P.underlying t = some (.slice e)) (hi : P.info? e = some i) (hz : i.zero = some z) (hs : i.size = sz) (hby : i.bytes = bytes) (hzs : z.cells.size = sz) {p : Nat} {x : α} (hp : ∀ j u, (out x)[j]? = some u → w.cell? ⟨p, j, none⟩ = some u)
    (hbase : base ≤ w.heap.size) (h63 : xs.length + 1 ≤ maxLen) (hbytes : (xs.length + 1) * bytes ≤ 140737488355328) :
    ∃ g off cap w', (Builtin.append_ #[t, t] ty #[v, .slice (some ⟨p, 0, none⟩) 1 1]).run P w = .ok (.slice (some ⟨g, off, none⟩) (xs.length + 1) cap) w' ∧ ORow sz out w' base (.slice (some ⟨g, off, none⟩) (xs.length + 1) cap) (xs ++ [x]) ∧ w.grownBy w' v.ownBlock ∧ (v.ownBlock = some g ∨ w.heap.size ≤ g) := h.append' hout hsz ht hi hz hs hby hzs (h1c x) hp hbase h63 hbytes

/-- .. at the operation, at a plain list, at a step of a region that draws. -/
theorem wp_append_off (hout : ∀ x : α, (out x).length = sz) (h1c : ∀ x : α, ∀ u ∈ out x, u.oneCell' = true) (hsz : 0 < sz) {w : World} {o : Oper} {a : Act} {K : Act → World → Prop} {Q : Exit → Act → World → Prop} (s y : Operand) (t : TypeId)
    (ho : o.op = .call { callee := .builtin .append, args := #[s, y], argTypes := #[t, t] }) {base : Nat} {v : Value} {xs : List α} (hv : ORow sz out w base v xs) {e : TypeId} {i : TypeInfo} {z : Value} {bytes : Nat}
    (ht : P.underlying t = some (.slice e)) (hi : P.info? e = some i) (hz : i.zero = some z) (hs : i.size = sz) (hby : i.bytes = bytes) (hzs : z.cells.size = sz) (he : a.eval s = v) {p : Nat} (hy : a.eval y = .slice (some ⟨p, 0, none⟩) 1 1) {x : α} (hp : ∀ j u, (out x)[j]? = some u → w.cell? ⟨p, j, none⟩ = some u)
    (hbase : base ≤ w.heap.size) (h63 : xs.length + 1 ≤ maxLen) (hbytes : (xs.length + 1) * bytes ≤ 140737488355328)
    (h : ∀ g off cap w', ORow sz out w' base (.slice (some ⟨g, off, none⟩) (xs.length + 1) cap) (xs ++ [x]) → w.grownBy w' v.ownBlock → (v.ownBlock = some g ∨ w.heap.size ≤ g) → K (a.put o.dst (.slice (some ⟨g, off, none⟩) (xs.length + 1) cap)) w') : o.wp P a w K Q := by
  obtain ⟨g, off, cap, w', hr, h2, h3, h4⟩ := hv.append (P := P) hout h1c hsz (ty := o.type) ht hi hz hs hby hzs hp hbase h63 hbytes
  unfold Oper.wp execOp
  simp only [ho, resolve, invoke, builtin, Sem.run_bind, Sem.run_pure, Result.andThen_ok, List.map_toArray, List.map_cons, List.map_nil, he, hy, hr]
  exact h g off cap w' h2 h3 h4
theorem wpList_append_off (hout : ∀ x : α, (out x).length = sz) (h1c : ∀ x : α, ∀ u ∈ out x, u.oneCell' = true) (hsz : 0 < sz) {w : World} {ops : Array Oper} {rest : List Oper} {o : Oper} {a : Act} {Q : Exit → Act → World → Prop} (hgd : o.guard = none) (s y : Operand) (t : TypeId)
    (ho : o.op = .call { callee := .builtin .append, args := #[s, y], argTypes := #[t, t] }) {base : Nat} {v : Value} {xs : List α} (hv : ORow sz out w base v xs) {e : TypeId} {i : TypeInfo} {z : Value} {bytes : Nat}
    (ht : P.underlying t = some (.slice e)) (hi : P.info? e = some i) (hz : i.zero = some z) (hs : i.size = sz) (hby : i.bytes = bytes) (hzs : z.cells.size = sz) (he : a.eval s = v) {p : Nat} (hy : a.eval y = .slice (some ⟨p, 0, none⟩) 1 1) {x : α} (hp : ∀ j u, (out x)[j]? = some u → w.cell? ⟨p, j, none⟩ = some u)
    (hbase : base ≤ w.heap.size) (h63 : xs.length + 1 ≤ maxLen) (hbytes : (xs.length + 1) * bytes ≤ 140737488355328)
    (h : ∀ g off cap w', ORow sz out w' base (.slice (some ⟨g, off, none⟩) (xs.length + 1) cap) (xs ++ [x]) → w.grownBy w' v.ownBlock → (v.ownBlock = some g ∨ w.heap.size ≤ g) → wpList P ops Q rest (a.put o.dst (.slice (some ⟨g, off, none⟩) (xs.length + 1) cap)) w') : wpList P ops Q (o :: rest) a w :=
  wpList_plain hgd fun _ hK => wp_append_off hout h1c hsz s y t ho hv ht hi hz hs hby hzs he hy hp hbase h63 hbytes fun g off cap w' h2 h3 h4 => hK _ _ (h g off cap w' h2 h3 h4)
theorem step_append_off (hout : ∀ x : α, (out x).length = sz) (h1c : ∀ x : α, ∀ u ∈ out x, u.oneCell' = true) (hsz : 0 < sz) {w : World} {ops : Array Oper} {o : Oper} {a : Act} {K : Act → World → Prop} {Q : Exit → Act → World → Prop} {E : Prop} (hgd : o.guard = none) (s y : Operand) (t : TypeId)
    (ho : o.op = .call { callee := .builtin .append, args := #[s, y], argTypes := #[t, t] }) {base : Nat} {v : Value} {xs : List α} (hv : ORow sz out w base v xs) {e : TypeId} {i : TypeInfo} {z : Value} {bytes : Nat}
    (ht : P.underlying t = some (.slice e)) (hi : P.info? e = some i) (hz : i.zero = some z) (hs : i.size = sz) (hby : i.bytes = bytes) (hzs : z.cells.size = sz) (he : a.eval s = v) {p : Nat} (hy : a.eval y = .slice (some ⟨p, 0, none⟩) 1 1) {x : α} (hp : ∀ j u, (out x)[j]? = some u → w.cell? ⟨p, j, none⟩ = some u)
    (hbase : base ≤ w.heap.size) (h63 : xs.length + 1 ≤ maxLen) (hbytes : (xs.length + 1) * bytes ≤ 140737488355328)
    (h : ∀ g off cap w', ORow sz out w' base (.slice (some ⟨g, off, none⟩) (xs.length + 1) cap) (xs ++ [x]) → w.grownBy w' v.ownBlock → (v.ownBlock = some g ∨ w.heap.size ≤ g) → K (a.put o.dst (.slice (some ⟨g, off, none⟩) (xs.length + 1) cap)) w') :
    if Region.wanted o (yielded ops a.tmps) = true then Oper.wp P o a w K Q else E := by
  have hw : Region.wanted o (yielded ops a.tmps) = true := by simp [Region.wanted, hgd]
  rw [if_pos hw]
  exact wp_append_off hout h1c hsz s y t ho hv ht hi hz hs hby hzs he hy hp hbase h63 hbytes h
theorem wp_append_off' (hout : ∀ x : α, (out x).length = sz) (hsz : 0 < sz) {w : World} {o : Oper} {a : Act} {K : Act → World → Prop} {Q : Exit → Act → World → Prop} (s y : Operand) (t : TypeId)
    (ho : o.op = .call { callee := .builtin .append, args := #[s, y], argTypes := #[t, t] }) {base : Nat} {v : Value} {xs : List α} (hv : ORow sz out w base v xs) {e : TypeId} {i : TypeInfo} {z : Value} {bytes : Nat}
    (ht : P.underlying t = some (.slice e)) (hi : P.info? e = some i) (hz : i.zero = some z) (hs : i.size = sz) (hby : i.bytes = bytes) (hzs : z.cells.size = sz) (he : a.eval s = v) {p : Nat} (hy : a.eval y = .slice (some ⟨p, 0, none⟩) 1 1) {x : α} (h1c : ∀ u ∈ out x, u.oneCell' = true) (hp : ∀ j u, (out x)[j]? = some u → w.cell? ⟨p, j, none⟩ = some u)
    (hbase : base ≤ w.heap.size) (h63 : xs.length + 1 ≤ maxLen) (hbytes : (xs.length + 1) * bytes ≤ 140737488355328)
    (h : ∀ g off cap w', ORow sz out w' base (.slice (some ⟨g, off, none⟩) (xs.length + 1) cap) (xs ++ [x]) → w.grownBy w' v.ownBlock → (v.ownBlock = some g ∨ w.heap.size ≤ g) → K (a.put o.dst (.slice (some ⟨g, off, none⟩) (xs.length + 1) cap)) w') : o.wp P a w K Q := by
  obtain ⟨g, off, cap, w', hr, h2, h3, h4⟩ := hv.append' (P := P) hout hsz (ty := o.type) ht hi hz hs hby hzs h1c hp hbase h63 hbytes
  unfold Oper.wp execOp
  simp only [ho, resolve, invoke, builtin, Sem.run_bind, Sem.run_pure, Result.andThen_ok, List.map_toArray, List.map_cons, List.map_nil, he, hy, hr]
  exact h g off cap w' h2 h3 h4
theorem step_append_off' (hout : ∀ x : α, (out x).length = sz) (hsz : 0 < sz) {w : World} {ops : Array Oper} {o : Oper} {a : Act} {K : Act → World → Prop} {Q : Exit → Act → World → Prop} {E : Prop} (hgd : o.guard = none) (s y : Operand) (t : TypeId)
    (ho : o.op = .call { callee := .builtin .append, args := #[s, y], argTypes := #[t, t] }) {base : Nat} {v : Value} {xs : List α} (hv : ORow sz out w base v xs) {e : TypeId} {i : TypeInfo} {z : Value} {bytes : Nat}
    (ht : P.underlying t = some (.slice e)) (hi : P.info? e = some i) (hz : i.zero = some z) (hs : i.size = sz) (hby : i.bytes = bytes) (hzs : z.cells.size = sz) (he : a.eval s = v) {p : Nat} (hy : a.eval y = .slice (some ⟨p, 0, none⟩) 1 1) {x : α} (h1c : ∀ u ∈ out x, u.oneCell' = true) (hp : ∀ j u, (out x)[j]? = some u → w.cell? ⟨p, j, none⟩ = some u)
    (hbase : base ≤ w.heap.size) (h63 : xs.length + 1 ≤ maxLen) (hbytes : (xs.length + 1) * bytes ≤ 140737488355328)
    (h : ∀ g off cap w', ORow sz out w' base (.slice (some ⟨g, off, none⟩) (xs.length + 1) cap) (xs ++ [x]) → w.grownBy w' v.ownBlock → (v.ownBlock = some g ∨ w.heap.size ≤ g) → K (a.put o.dst (.slice (some ⟨g, off, none⟩) (xs.length + 1) cap)) w') :
    if Region.wanted o (yielded ops a.tmps) = true then Oper.wp P o a w K Q else E := by
  have hw : Region.wanted o (yielded ops a.tmps) = true := by simp [Region.wanted, hgd]
  rw [if_pos hw]
  exact wp_append_off' hout hsz s y t ho hv ht hi hz hs hby hzs he hy h1c hp hbase h63 hbytes h
end
end Go.Proofs.Ytpdibjaeopcimaa
