/- FlowRuns: cut; the plain law: each value ends in what its step saw. -/
import Derived.Test.YtoknpcohhnlncaaFlowX
import Derived.Test.YtoknpcohhnlncaaFlowP
set_option linter.unusedVariables false
set_option linter.unusedSimpArgs false
namespace Go.Proofs.Ytoknpcohhnlncaa
open Go.RowKit

/-- The end of a text. -/
def cutB (s : ByteArray) : ByteArray := if 40 < s.size then s.extract (s.size - 40) s.size else s
theorem cutB_size (s : ByteArray) : (cutB s).size ≤ 40 := by
  unfold cutB
  split
  · simp only [ByteArray.size_extract]
    omega
  · omega
set_option maxRecDepth 100000 in
theorem cut_any (s : ByteArray) (w : World) (hs : s.size ≤ 140737488351232) : Calls Try.prog 19 #[.string s] w fun e w' => e = .returned (.string (cutB s)) ∧ Below w.heap.size w w' := by
  by_cases h : 40 < s.size
  · have t0 : decide ((40 : Int) < (s.size : Int)) = true := by simp; omega
    have t0' : decide (40 < s.size) = true := by simp; omega
    have hc : cutB s = s.extract (s.size - 40) s.size := by unfold cutB; rw [if_pos h]
    have HC := Lib.hid hc
    obtain ⟨m, hm⟩ : ∃ m, s.size = m + 40 := ⟨s.size - 40, by omega⟩
    have hw : wrap64 ((s.size : Int) - 40) = ((m : Nat) : Int) := by rw [hm]; unfold wrap64; omega
    have e1 : s.size - 40 = m := by omega
    go_enter Try.func19, Try.ntmps19
    go_wp2_with fail
    all_goals first
      | (go_ret
         refine ⟨?_, Ch.below (by (repeat (first | with_reducible assumption | with_reducible exact Ch.refl _ _ | with_reducible refine Ch.drew ?_ | with_reducible refine Ch.alloc ?_ _ | (with_reducible refine Ch.set' ?_ ?_; focus (first | (right; rfl; done) | (left; simp; done) | (left; simp; omega) | (left; omega) | (right; simp; done) | (right; simp; omega))))))⟩
         show Ending.returned (Value.string (s.extract m (m + 40))) = _
         rw [HC.out, e1, hm])
      | (exfalso; omega)
  · have t0 : decide ((40 : Int) < (s.size : Int)) = false := by simp; omega
    have t0' : decide (40 < s.size) = false := by simp; omega
    have hc : cutB s = s := by unfold cutB; rw [if_neg h]
    rw [hc]
    clear h hc
    go_enter Try.func19, Try.ntmps19
    go_wp2_with fail
    go_ret
    exact ⟨rfl, Ch.below (by (repeat (first | with_reducible assumption | with_reducible exact Ch.refl _ _ | with_reducible refine Ch.drew ?_ | with_reducible refine Ch.alloc ?_ _ | (with_reducible refine Ch.set' ?_ ?_; focus (first | (right; rfl; done) | (left; simp; done) | (left; simp; omega) | (left; omega) | (right; simp; done) | (right; simp; omega))))))⟩

/-- A text ends in another one. -/
def Suf (x s : ByteArray) : Prop := ∃ p, sB x = p ++ sB s
/-- What is offered, and when. -/
def Offered (n : Int) (V : List ByteArray) (d : ByteArray) : Prop :=
  ∃ Vt x l, Vt <+: V ∧ (Vt.length : Int) < n ∧ noteF Vt.length x = some l ∧ d = bS l ∧ Suf x (cutB (Vt.getLastD ⟨#[]⟩))
/-- Each value ends in its input. -/
def Chain (V : List ByteArray) : Prop := ∀ k a b, V[k]? = some a → V[k + 1]? = some b → Suf b (cutB a)

theorem Offered.mono {n : Int} {V V2 : List ByteArray} {d : ByteArray} (h : Offered n V d) (hp : V <+: V2) : Offered n V2 d := by
  obtain ⟨Vt, x, l, h1, h2⟩ := h
  exact ⟨Vt, x, l, h1.trans hp, h2⟩
theorem chain_add {n : Int} {V : List ByteArray} {d : ByteArray} (hc : Chain V) (h : Offered n V d) : Chain (addF n V (sB d)).1 := by
  obtain ⟨Vt, x, l, hp, hn, hno, rfl, hs⟩ := h
  by_cases he : Vt.length = V.length
  · have : Vt = V := hp.eq_of_length he
    subst this
    rw [add_note hno hn]
    intro k a b ha hb
    by_cases hk : k + 1 < Vt.length
    · simp only at ha hb
      rw [List.getElem?_append_left (by omega)] at ha hb
      exact hc k a b ha hb
    · simp only at ha hb
      have hlt := (List.getElem?_eq_some_iff.1 hb).1
      simp at hlt
      have hk2 : k + 1 = Vt.length := by omega
      rw [hk2] at hb
      simp at hb
      subst hb
      rw [List.getElem?_append_left (by omega)] at ha
      have hl : Vt.getLastD ⟨#[]⟩ = a := by
        rw [List.getLastD_eq_getLast?, List.getLast?_eq_getElem?, show Vt.length - 1 = k by omega, ha]
        rfl
      rw [← hl]
      exact hs
  · have hl := noteF_lt hno
    obtain ⟨h1, h2, _, _⟩ := parse_note hno
    unfold addF
    rw [sB_bS hl, h1]
    simp only
    rw [if_neg (by simp; omega)]
    exact hc

/-- A row of numbers of one's own. -/
def IRow (w : World) (base : Nat) (v : Value) (xs : List Int) : Prop := w.ownsRow base 3 1 v xs.length (xs.map (Value.int .i64))
theorem IRow.ch {w w1 : World} {base : Nat} {v : Value} {bs : List Int} {S : Nat → Prop} (h : IRow w base v bs) (hc : Ch S w w1) (hv : ∀ g, v.ownBlock = some g → ¬ S g) : IRow w1 base v bs :=
  ⟨h.1, by
    rcases h.2 with h2 | ⟨g, cap, cur, e, hg, hh, r⟩
    · exact .inl h2
    · exact .inr ⟨g, cap, cur, e, hg, (hc.block g (lt_of_block hh) (hv g (by rw [e]; rfl))).trans hh, r⟩⟩
theorem IRow.slice {w : World} {base : Nat} {v : Value} {bs : List Int} (h : IRow w base v bs) : ∃ a cap, v = .slice a bs.length cap ∧ bs.length ≤ cap := by
  rcases h.2 with ⟨hv, h0⟩ | ⟨g, cap, cur, hv, hg, hh, hn, _⟩
  · exact ⟨none, 0, by rw [hv, h0], by omega⟩
  · exact ⟨_, cap, hv, hn⟩
theorem IRow.at {w : World} {base : Nat} {v : Value} {bs : List Int} (h : IRow w base v bs) {i : Nat} {s : Int} (hi : bs[i]? = some s) : ∃ g cap, v = .slice (some ⟨g, 0, none⟩) bs.length cap ∧ w.cell? ⟨g, i, none⟩ = some (.int .i64 s) := by
  rcases h.2 with ⟨hv, h0⟩ | ⟨g, cap, cur, hv, hg, hh, hn, hc, hsz, htake⟩
  · have : bs = [] := List.length_eq_zero_iff.1 h0
    subst this
    cases hi
  · subst hv
    have hl := (List.getElem?_eq_some_iff.1 hi).1
    refine ⟨g, cap, rfl, ?_⟩
    rw [h.cellAt i (by omega)]
    simp [hi]
theorem IRow.own {w : World} {base : Nat} {v : Value} {bs : List Int} (h : IRow w base v bs) {g : Nat} (e : v.ownBlock = some g) : base ≤ g ∧ g < w.heap.size := by
  rcases h.2 with ⟨h2, _⟩ | ⟨g3, cap3, cur3, hv3, hg3, hh, _⟩
  · rw [h2] at e; simp [Value.ownBlock] at e
  · rw [hv3] at e
    obtain rfl : g3 = g := by simpa [Value.ownBlock] using e
    exact ⟨hg3, lt_of_block hh⟩
theorem IRow.nil (w : World) (base : Nat) : IRow w base (.slice none 0 0) [] := World.ownsRow_nil _ _ _ _
theorem infoInt : (Try.prog.info? 3).map (fun i => (i.zero, i.size, i.bytes)) = some (some (.int .i64 0), 1, 8) := by kernel_rfl

/-- The three rows of FlowRuns: the log, what was offered, and when it is due. -/
structure Rows3 (w0 w : World) (v5 v6 v7 : Value) (log way : List ByteArray) (due : List Int) : Prop where
  l : SRow w w0.heap.size v5 log
  m : SRow w w0.heap.size v6 way
  d : IRow w w0.heap.size v7 due
  lm : ∀ g, v5.ownBlock = some g → v6.ownBlock ≠ some g
  ld : ∀ g, v5.ownBlock = some g → v7.ownBlock ≠ some g
  md : ∀ g, v6.ownBlock = some g → v7.ownBlock ≠ some g
  ch : Ch (fun _ => False) w0 w
theorem Rows3.below {w0 w w1 : World} {v5 v6 v7 : Value} {log way : List ByteArray} {due : List Int} (h : Rows3 w0 w v5 v6 v7 log way due) (hb : Below w.heap.size w w1) : Rows3 w0 w1 v5 v6 v7 log way due :=
  ⟨h.l.ch (Ch.of_below (fun _ => False) hb) (fun _ _ => id), h.m.ch (Ch.of_below (fun _ => False) hb) (fun _ _ => id), h.d.ch (Ch.of_below (fun _ => False) hb) (fun _ _ => id), h.lm, h.ld, h.md, h.ch.call hb⟩

theorem parse_len {l : List Nat} {k : Nat} {t : List Nat} (h : parseF l = some (k, t)) : t.length ≤ l.length := by
  unfold parseF at h
  split at h
  · cases h
    unfold textE
    split
    · split
      · simp only [List.length_take, List.length_drop]; omega
      · simp
    · simp
  · cases h
theorem addF_sizes {n : Int} {V : List ByteArray} {d : ByteArray} {B : Nat} (h : ∀ v ∈ V, v.size ≤ B) (hd : d.size ≤ B) : ∀ v ∈ (addF n V (sB d)).1, v.size ≤ B := by
  unfold addF
  split
  · rename_i k t hp
    split
    · intro v hv
      rcases List.mem_append.1 hv with hv | hv
      · exact h v hv
      · rw [List.mem_singleton] at hv
        have := parse_len hp
        rw [sB_length] at this
        rw [hv, bS_size]
        omega
    · exact h
  · exact h
theorem foldF_sizes {n : Int} {B : Nat} : ∀ (log : List ByteArray) {V : List ByteArray}, (∀ v ∈ V, v.size ≤ B) → (∀ d ∈ log, d.size ≤ B) → ∀ v ∈ foldF n V log, v.size ≤ B
  | [], _, h, _ => h
  | d :: log, _, h, hd => foldF_sizes log (addF_sizes h (hd d (by simp))) (fun e he => hd e (by simp [he]))
theorem last_size {V : List ByteArray} {B : Nat} (h : ∀ v ∈ V, v.size ≤ B) : (V.getLastD ⟨#[]⟩).size ≤ B := by
  rw [List.getLastD_eq_getLast?]
  cases hv : V.getLast? with
  | none => exact Nat.zero_le _
  | some x => exact h x (List.mem_of_getLast? hv)

/-- One text is appended. -/
theorem wpList_append_str {w : World} {ops : Array Oper} {rest : List Oper} {o : Oper} {a : Act} {Q : Exit → Act → World → Prop} (hgd : o.guard = none) (s x : Operand)
    (ho : o.op = .call { callee := .builtin .append, args := #[s, x], argTypes := #[28, 28] }) {base p : Nat} {v : Value} {pre : List ByteArray} {d : ByteArray} (hs : a.eval s = v) (hx : a.eval x = .slice (some ⟨p, 0, none⟩) 1 1)
    (hv : SRow w base v pre) (hb : Blk w p #[.string d] 9) (hbase : base ≤ w.heap.size) (hlen : pre.length ≤ 4194304)
    (h : ∀ g cap w', SRow w' base (.slice (some ⟨g, 0, none⟩) (pre.length + 1) cap) (pre ++ [d]) → w.grownBy w' v.ownBlock → (v.ownBlock = some g ∨ g = w.heap.size) → g < w'.heap.size → wpList Try.prog ops Q rest (a.put o.dst (.slice (some ⟨g, 0, none⟩) (pre.length + 1) cap)) w') : wpList Try.prog ops Q (o :: rest) a w := by
  obtain ⟨i0, hinfo, hz0, hz1, hz2⟩ := info_parts infoStr
  refine wpList_append_lies _ hgd s x 28 ho base 9 i0 (.string ⟨#[]⟩) 1 16 Try.underlying28 hinfo hz0 hz1 hz2 rfl (by decide) v pre.length (pre.map Value.string) hs hv ⟨p, 0, none⟩ 1 1 [.string d] hx rfl (World.news_of_block hb) (by intro u hu; simp at hu; subst hu; rfl) (by decide) (by unfold maxLen; omega) (by omega) hbase w.heap.size rfl ?_
  intro g cap w' h1 h2 h3 h4
  refine h g cap w' ?_ h2 h3 h4
  unfold SRow
  rw [List.length_append, List.map_append]
  exact h1
theorem step_append_str {w : World} {ops : Array Oper} {o : Oper} {a : Act} {K : Act → World → Prop} {Q : Exit → Act → World → Prop} {E : Prop} (hgd : o.guard = none) (s x : Operand)
    (ho : o.op = .call { callee := .builtin .append, args := #[s, x], argTypes := #[28, 28] }) {base p : Nat} {v : Value} {pre : List ByteArray} {d : ByteArray} (hs : a.eval s = v) (hx : a.eval x = .slice (some ⟨p, 0, none⟩) 1 1)
    (hv : SRow w base v pre) (hb : Blk w p #[.string d] 9) (hbase : base ≤ w.heap.size) (hlen : pre.length ≤ 4194304)
    (h : ∀ g cap w', SRow w' base (.slice (some ⟨g, 0, none⟩) (pre.length + 1) cap) (pre ++ [d]) → w.grownBy w' v.ownBlock → (v.ownBlock = some g ∨ g = w.heap.size) → g < w'.heap.size → K (a.put o.dst (.slice (some ⟨g, 0, none⟩) (pre.length + 1) cap)) w') : if Region.wanted o (yielded ops a.tmps) = true then Oper.wp Try.prog o a w K Q else E := by
  obtain ⟨i0, hinfo, hz0, hz1, hz2⟩ := info_parts infoStr
  refine step_append_lies _ hgd s x 28 ho base 9 i0 (.string ⟨#[]⟩) 1 16 Try.underlying28 hinfo hz0 hz1 hz2 rfl (by decide) v pre.length (pre.map Value.string) hs hv ⟨p, 0, none⟩ 1 1 [.string d] hx rfl (World.news_of_block hb) (by intro u hu; simp at hu; subst hu; rfl) (by decide) (by unfold maxLen; omega) (by omega) hbase w.heap.size rfl ?_
  intro g cap w' h1 h2 h3 h4
  refine h g cap w' ?_ h2 h3 h4
  unfold SRow
  rw [List.length_append, List.map_append]
  exact h1
theorem step_append_int {w : World} {ops : Array Oper} {o : Oper} {a : Act} {K : Act → World → Prop} {Q : Exit → Act → World → Prop} {E : Prop} (hgd : o.guard = none) (s x : Operand)
    (ho : o.op = .call { callee := .builtin .append, args := #[s, x], argTypes := #[39, 39] }) {base p : Nat} {v : Value} {pre : List Int} {d : Int} (hs : a.eval s = v) (hx : a.eval x = .slice (some ⟨p, 0, none⟩) 1 1)
    (hv : IRow w base v pre) (hb : Blk w p #[.int .i64 d] 3) (hbase : base ≤ w.heap.size) (hlen : pre.length ≤ 4194304)
    (h : ∀ g cap w', IRow w' base (.slice (some ⟨g, 0, none⟩) (pre.length + 1) cap) (pre ++ [d]) → w.grownBy w' v.ownBlock → (v.ownBlock = some g ∨ g = w.heap.size) → g < w'.heap.size → K (a.put o.dst (.slice (some ⟨g, 0, none⟩) (pre.length + 1) cap)) w') : if Region.wanted o (yielded ops a.tmps) = true then Oper.wp Try.prog o a w K Q else E := by
  obtain ⟨i0, hinfo, hz0, hz1, hz2⟩ := info_parts infoInt
  refine step_append_lies _ hgd s x 39 ho base 3 i0 (.int .i64 0) 1 8 Try.underlying39 hinfo hz0 hz1 hz2 rfl (by decide) v pre.length (pre.map (Value.int .i64)) hs hv ⟨p, 0, none⟩ 1 1 [.int .i64 d] hx rfl (World.news_of_block hb) (by intro u hu; simp at hu; subst hu; rfl) (by decide) (by unfold maxLen; omega) (by omega) hbase w.heap.size rfl ?_
  intro g cap w' h1 h2 h3 h4
  refine h g cap w' ?_ h2 h3 h4
  unfold IRow
  rw [List.length_append, List.map_append]
  exact h1

/-- Behind an append to the log. -/
theorem Rows3.addl {w0 w w1 w' : World} {v5 v6 v7 : Value} {log log2 way : List ByteArray} {due : List Int} {g n cap : Nat} (h : Rows3 w0 w v5 v6 v7 log way due) (hb : Below w.heap.size w w1) (hg : w1.grownBy w' v5.ownBlock) (hl : SRow w' w0.heap.size (.slice (some ⟨g, 0, none⟩) n cap) log2) (hw : v5.ownBlock = some g ∨ g = w1.heap.size) :
    Rows3 w0 w' (.slice (some ⟨g, 0, none⟩) n cap) v6 v7 log2 way due := by
  have h1 := h.below hb
  have hs := hb.size
  have f : ∀ (v : Value), (∀ k, v5.ownBlock = some k → v.ownBlock ≠ some k) → (∀ k, v.ownBlock = some k → k < w1.heap.size) → ∀ k, (Value.slice (some ⟨g, 0, none⟩) n cap).ownBlock = some k → v.ownBlock ≠ some k := by
    intro v d1 d2 k e e2
    obtain rfl : g = k := by simpa [Value.ownBlock] using e
    rcases hw with h | h
    · exact d1 _ h e2
    · have := d2 _ e2
      omega
  refine ⟨hl, h1.m.ch (Ch.of_grown hg) (fun k e e2 => h1.lm k e2.symm e), h1.d.ch (Ch.of_grown hg) (fun k e e2 => h1.ld k e2.symm e), f v6 h1.lm (fun k e => (h1.m.own e).2), f v7 h1.ld (fun k e => (h1.d.own e).2), h1.md, ?_⟩
  exact h1.ch.step (Ch.of_grown hg) (fun k hk e => by have := h1.l.own e.symm; omega)
/-- .. to what was offered. -/
theorem Rows3.addm {w0 w w1 w' : World} {v5 v6 v7 : Value} {log way2 way : List ByteArray} {due : List Int} {g n cap : Nat} (h : Rows3 w0 w v5 v6 v7 log way due) (hb : Below w.heap.size w w1) (hg : w1.grownBy w' v6.ownBlock) (hl : SRow w' w0.heap.size (.slice (some ⟨g, 0, none⟩) n cap) way2) (hw : v6.ownBlock = some g ∨ g = w1.heap.size) :
    Rows3 w0 w' v5 (.slice (some ⟨g, 0, none⟩) n cap) v7 log way2 due := by
  have h1 := h.below hb
  have hs := hb.size
  refine ⟨h1.l.ch (Ch.of_grown hg) (fun k e e2 => h1.lm k e e2.symm), hl, h1.d.ch (Ch.of_grown hg) (fun k e e2 => h1.md k e2.symm e), ?_, h1.ld, ?_, ?_⟩
  · intro k e e2
    obtain rfl : g = k := by simpa [Value.ownBlock] using e2
    rcases hw with h | h
    · exact h1.lm _ e h
    · have := (h1.l.own e).2
      omega
  · intro k e2 e
    obtain rfl : g = k := by simpa [Value.ownBlock] using e2
    rcases hw with h | h
    · exact h1.md _ h e
    · have := (h1.d.own e).2
      omega
  · exact h1.ch.step (Ch.of_grown hg) (fun k hk e => by have := h1.m.own e.symm; omega)
/-- .. to when it is due. -/
theorem Rows3.addd {w0 w w1 w' : World} {v5 v6 v7 : Value} {log way : List ByteArray} {due due2 : List Int} {g n cap : Nat} (h : Rows3 w0 w v5 v6 v7 log way due) (hb : Below w.heap.size w w1) (hg : w1.grownBy w' v7.ownBlock) (hl : IRow w' w0.heap.size (.slice (some ⟨g, 0, none⟩) n cap) due2) (hw : v7.ownBlock = some g ∨ g = w1.heap.size) :
    Rows3 w0 w' v5 v6 (.slice (some ⟨g, 0, none⟩) n cap) log way due2 := by
  have h1 := h.below hb
  have hs := hb.size
  refine ⟨h1.l.ch (Ch.of_grown hg) (fun k e e2 => h1.ld k e e2.symm), h1.m.ch (Ch.of_grown hg) (fun k e e2 => h1.md k e e2.symm), hl, h1.lm, ?_, ?_, ?_⟩
  · intro k e e2
    obtain rfl : g = k := by simpa [Value.ownBlock] using e2
    rcases hw with h | h
    · exact h1.ld _ e h
    · have := (h1.l.own e).2
      omega
  · intro k e e2
    obtain rfl : g = k := by simpa [Value.ownBlock] using e2
    rcases hw with h | h
    · exact h1.md _ e h
    · have := (h1.m.own e).2
      omega
  · exact h1.ch.step (Ch.of_grown hg) (fun k hk e => by have := h1.d.own e.symm; omega)

/-- Behind an append to what was offered, in a region that draws. -/
theorem Rows3.midm {w0 w w1 w' : World} {v5 v6 v7 : Value} {log way2 way : List ByteArray} {due : List Int} {g n cap : Nat} (h : Rows3 w0 w v5 v6 v7 log way due) (hb : Ch (fun _ => False) w w1) (hg : w1.grownBy w' v6.ownBlock) (hl : SRow w' w0.heap.size (.slice (some ⟨g, 0, none⟩) n cap) way2) (hw : v6.ownBlock = some g ∨ g = w1.heap.size) :
    Rows3 w0 w' v5 (.slice (some ⟨g, 0, none⟩) n cap) v7 log way2 due ∧ ∀ p cs t, Blk w1 p cs t → v6.ownBlock ≠ some p → Blk w' p cs t :=
  ⟨h.addm hb.below hg hl hw, fun p cs t h1 h2 => h1.ch (Ch.of_grown hg) (fun e => h2 e.symm)⟩

theorem sB_inj {x y : ByteArray} (h : sB x = sB y) : x = y := by
  rw [← bS_sB x, ← bS_sB y, h]
theorem Suf.size {x s : ByteArray} (h : Suf x s) : s.size ≤ x.size := by
  obtain ⟨p, hp⟩ := h
  have := congrArg List.length hp
  rw [List.length_append, sB_length, sB_length] at this
  omega
theorem Suf.cut {x s : ByteArray} (h : Suf x s) : x.extract (x.size - s.size) x.size = s := by
  have hsz := h.size
  obtain ⟨p, hp⟩ := h
  have hl := congrArg List.length hp
  rw [List.length_append, sB_length, sB_length] at hl
  apply sB_inj
  unfold sB at hp ⊢
  have h1 : (x.extract (x.size - s.size) x.size).data.toList = x.data.toList.drop p.length := by
    rw [ByteArray.data_extract, Array.toList_extract]
    have h2 : x.data.toList.length = x.size := by rw [Array.length_toList]; rfl
    simp only [List.extract_eq_take_drop]
    rw [show x.size - s.size = p.length by omega]
    apply List.take_of_length_le
    rw [List.length_drop]
    omega
  rw [h1, List.map_drop, hp, List.drop_left]

/-- Run, a row's element. -/
structure RunD where
  name : ByteArray
  late : Int
def RunD.out (r : RunD) : List Value := [.string r.name, .int .i64 r.late]
end Go.Proofs.Ytoknpcohhnlncaa
