/- index's reference: Apply. -/
import Derived.Test.YtpcocmdhdnfjcaaIp1
set_option linter.unusedVariables false
set_option linter.unusedSimpArgs false
namespace Go.Proofs.Ytpcocmdhdnfjcaa
open Go.RowKit

section
variable {P : Program} {α : Type} {sz : Nat} {out : α → List Value}
theorem flat_inv (hout : ∀ x : α, (out x).length = sz) : ∀ (xs : List α) (j : Nat) (u : Value), (xs.flatMap out)[j]? = some u → ∃ i x k, xs[i]? = some x ∧ (out x)[k]? = some u ∧ j = i * sz + k
  | [], j, u, h => by simp at h
  | x :: xs, j, u, h => by
    simp only [List.flatMap_cons] at h
    by_cases hj : j < (out x).length
    · rw [List.getElem?_append_left hj] at h
      exact ⟨0, x, j, rfl, h, by simp⟩
    · rw [List.getElem?_append_right (by omega)] at h
      obtain ⟨i, y, k, h1, h2, h3⟩ := flat_inv hout xs _ u h
      rw [hout] at h3 hj
      exact ⟨i + 1, y, k, by simpa using h1, h2, by rw [Nat.add_mul]; omega⟩
/-- All elements of a row that is read are appended to an empty one of one's own. -/
theorem wpList_append_all (hout : ∀ x : α, (out x).length = sz) (hsz : 0 < sz) {w : World} {ops : Array Oper} {rest : List Oper} {o : Oper} {a : Act} {Q : Exit → Act → World → Prop} (hgd : o.guard = none) (s y : Operand) (t : TypeId)
    (ho : o.op = .call { callee := .builtin .append, args := #[s, y], argTypes := #[t, t] }) {S : Nat → Prop} {g0 : Nat} {src : Value} {ys : List α} {e : TypeId} {i : TypeInfo} {z : Value} {bytes : Nat} (h1c : ∀ x ∈ ys, ∀ u ∈ out x, u.oneCell' = true) (ht : P.underlying t = some (.slice e)) (hi : P.info? e = some i) (hz : i.zero = some z) (hs : i.size = sz) (hby : i.bytes = bytes) (hzs : z.cells.size = sz)
    (he : a.eval s = .slice (some ⟨g0, 0, none⟩) 0 0) (hy : a.eval y = src) (hb : Blk w g0 #[] e) (hv : VRow S sz out w src ys) (h63 : ys.length ≤ maxLen) (hbytes : ys.length * bytes ≤ 140737488355328)
    (h : ∀ g off cap w', ORow sz out w' 0 (.slice (some ⟨g, off, none⟩) ys.length cap) ys → Ch (· = g0) w w' → (g = g0 ∨ w.heap.size ≤ g) → wpList P ops Q rest (a.put o.dst (.slice (some ⟨g, off, none⟩) ys.length cap)) w') : wpList P ops Q (o :: rest) a w := by
  obtain ⟨ad, cap, rfl, h2, h3, h4⟩ := hv
  have hown : w.ownsRow 0 e sz (.slice (some ⟨g0, 0, none⟩) 0 0) 0 [] := ⟨by simp, .inr ⟨g0, 0, #[], rfl, Nat.zero_le _, hb, Nat.le_refl _, by simp [maxLen], by simp, by simp⟩⟩
  cases ys with
  | nil =>
    have hself : ORow sz out w 0 (.slice (some ⟨g0, 0, none⟩) ([] : List α).length 0) [] := .inr ⟨g0, 0, 0, rfl, Nat.zero_le _, hb.lt, Nat.le_refl _, by simp [maxLen], (fun j hj => by simp at hj), (fun j u hu => by simp at hu)⟩
    have hr := h g0 0 0 w hself (Ch.refl _ _) (.inl rfl)
    refine wpList_plain hgd fun K hK => ?_
    have hrun : (Builtin.append_ #[t, t] o.type #[.slice (some ⟨g0, 0, none⟩) 0 0, .slice ad 0 cap]).run P w = .ok (.slice (some ⟨g0, 0, none⟩) 0 0) w := by
      cases ad <;> simp [Builtin.append_, run_underlying ht, sizeOf, typeInfo, hi, Builtin.lenOf, Builtin.firstCells, loadCells, loadCellsFrom, storeCells]
    have hy' : a.eval y = .slice ad 0 cap := hy
    unfold Oper.wp
    simp [execOp, ho, resolve, invoke, builtin, he, hy', hrun, Result.andThen]
    exact hK _ _ hr
  | cons y0 ys0 =>
    obtain ⟨b, off, e2, hbl, _⟩ := h4 0 y0 rfl
    subst e2
    obtain ⟨ys, hys⟩ : ∃ ys, ys = y0 :: ys0 := ⟨_, rfl⟩
    rw [← hys] at h1c h2 h4 h63 hbytes h hy
    have hpos : 0 < ys.length := by rw [hys]; simp
    refine wpList_append_lies _ hgd s y t ho 0 e i z sz bytes ht hi hz hs hby hzs hsz _ 0 [] he hown ⟨b, off, none⟩ ys.length cap (ys.flatMap out) hy (flat_len hout ys) ?_ ?_ hpos (by omega) (by rw [Nat.zero_add]; exact hbytes) (Nat.zero_le _) w.heap.size rfl ?_
    · intro j u hu
      obtain ⟨i, x, k, e1, e2, e3⟩ := flat_inv hout ys j u hu
      obtain ⟨b', off', e4, _, _, hc⟩ := h4 i x e1
      cases e4
      rw [Addr.add_mid, e3]
      exact hc k u e2
    · intro u hu
      obtain ⟨x, hx, hu⟩ := List.mem_flatMap.1 hu
      exact h1c x hx u hu
    · intro g cap2 w2 hown2 hgrow hg hlt
      rw [Nat.zero_add] at hown2 ⊢
      obtain ⟨s1, s2, s3, s4, s5, s6⟩ := ownsRow_there hown2
      refine h g 0 cap2 w2 (.inr ⟨g, 0, cap2, rfl, s1, s2, s3, s4, s5, by simpa using s6⟩) ((Ch.of_grown hgrow).mono (fun k e => by simpa [Value.ownBlock] using e)) (hg.imp (fun e => by simpa [Value.ownBlock] using e.symm) (fun e => by omega))
end

theorem infoItem : (Try.prog.info? 38).map (fun i => (i.zero, i.size, i.bytes)) = some (some (.agg #[.int .i64 0, .int .i64 0, .int .i64 0, .int .i64 0, .int .i64 0, .slice none 0 0, .string ⟨#[]⟩, .int .i64 0, .int .i64 0, .int .i64 0, .int .i64 0, .int .i64 0]), 12, 120) := by kernel_rfl
theorem itO_one (p : It × Value) (h : p.2.oneCell' = true) : ∀ u ∈ itO p, u.oneCell' = true := by
  intro u hu
  simp only [itO, List.mem_cons, List.not_mem_nil, or_false] at hu
  rcases hu with rfl | rfl | rfl | rfl | rfl | rfl | rfl | rfl | rfl | rfl | rfl | rfl <;> first | rfl | exact h
theorem VRow.one {α : Type} {S : Nat → Prop} {sz : Nat} {out : α → List Value} {w : World} {v : Value} {xs : List α} (h : VRow S sz out w v xs) : v.oneCell' = true := by
  obtain ⟨a, cap, rfl, _⟩ := h
  rfl
/-- One item is appended. -/
theorem wpList_append_item {w : World} {ops : Array Oper} {rest : List Oper} {o : Oper} {a : Act} {Q : Exit → Act → World → Prop} (hgd : o.guard = none) (s y : Operand)
    (ho : o.op = .call { callee := .builtin .append, args := #[s, y], argTypes := #[22, 22] }) {base p : Nat} {v : Value} {xs : List (It × Value)} {x : It × Value} (he : a.eval s = v) (hy : a.eval y = .slice (some ⟨p, 0, none⟩) 1 1)
    (h1 : x.2.oneCell' = true) (hv : ORow 12 itO w base v xs) (hp : Blk w p (itO x).toArray 38) (hbase : base ≤ w.heap.size) (hl : xs.length ≤ 4194304)
    (h : ∀ g off cap w', ORow 12 itO w' base (.slice (some ⟨g, off, none⟩) (xs.length + 1) cap) (xs ++ [x]) → w.grownBy w' v.ownBlock → (v.ownBlock = some g ∨ w.heap.size ≤ g) → wpList Try.prog ops Q rest (a.put o.dst (.slice (some ⟨g, off, none⟩) (xs.length + 1) cap)) w') :
    wpList Try.prog ops Q (o :: rest) a w := by
  obtain ⟨i0, hinfo, hz0, hz1, hz2⟩ := info_parts infoItem
  refine wpList_plain hgd fun K hK => wp_append_off' itO_len (by decide) s y 22 ho hv Try.underlying22 hinfo hz0 hz1 hz2 rfl he hy (x := x) (itO_one x h1) ?_ hbase (by unfold maxLen; omega) (by omega) fun g off cap w' h2 h3 h4 => hK _ _ (h g off cap w' h2 h3 h4)
  intro j u hu
  rw [hp.cell]
  simpa using hu
end Go.Proofs.Ytpcocmdhdnfjcaa
