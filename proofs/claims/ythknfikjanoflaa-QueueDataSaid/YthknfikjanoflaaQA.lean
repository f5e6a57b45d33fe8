/- queue's Add. -/
import Derived.Test.YthknfikjanoflaaQS
import Derived.Deep.RegionLaw
import Derived.Test.YthknfikjanoflaaTail
set_option linter.unusedVariables false
set_option linter.unusedSimpArgs false
namespace Go.Proofs.Ythknfikjanoflaa
open Go.RowKit

def pushQ (st : QSt) (e : Ev) : QSt × Bool :=
  if hadF st (e.id : Int) = true then (st, false) else ({ st with pu := putA (e.id : Int) true st.pu, l := st.l ++ [(e.item, st.many - 1)] }, true)
def popQ (st : QSt) (e : Ev) : QSt × Bool :=
  if (getA (e.id : Int) st.po).isSome = true then (st, false) else match st.l with
    | [] => ({ st with po := putA (e.id : Int) (⟨#[]⟩, false) st.po }, true)
    | x :: l => ({ st with l := l, po := putA (e.id : Int) (x.1, true) st.po }, true)
def addQ (st : QSt) (l : List Nat) : QSt × Bool :=
  match parseQ l with
  | none => ({ st with many := st.many + 1 }, false)
  | some e => if e.push = true then pushQ { st with many := st.many + 1 } e else popQ { st with many := st.many + 1 } e

/-- What a step of the queue leaves. -/
def QPost (q b1 b2 : Nat) (vb : Option Nat) (base : Nat) (r : QSt × Bool) (w : World) (e : Ending) (w' : World) : Prop :=
  ∃ vb', e = .returned (.bool r.2) ∧ Qu w' q b1 b2 vb' base r.1 ∧ (∀ g, vb' = some g → vb = some g ∨ w.heap.size ≤ g) ∧ Ch (Qf q b1 b2 vb) w w'

theorem Qu.putPu {w w1 : World} {q b1 b2 : Nat} {vb : Option Nat} {base : Nat} {st : QSt} {pu : List (Int × Bool)} (h : Qu w q b1 b2 vb base st) (hm : MapB w1 b1 (Value.int .i64) Value.bool pu) (hc : Ch (· = b1) w w1) : Qu w1 q b1 b2 vb base { st with pu := pu } := by
  obtain ⟨v, h1, h2, h3⟩ := h.box
  have n1 := h.n1
  have nv := h.nv
  exact ⟨⟨v, h1.ch hc n1.1, h2.ch hc (fun g e => by rw [h3] at e; intro e2; exact nv.2.1 (by rw [e, e2])), h3⟩, hm, h.mq.ch hc (fun e => n1.2.2 e.symm), h.nv, h.n1, h.hb⟩
theorem Qu.putPo {w w1 : World} {q b1 b2 : Nat} {vb : Option Nat} {base : Nat} {st : QSt} {po : List (Int × (ByteArray × Bool))} (h : Qu w q b1 b2 vb base st) (hm : MapB w1 b2 (Value.int .i64) gotO po) (hc : Ch (· = b2) w w1) : Qu w1 q b1 b2 vb base { st with po := po } := by
  obtain ⟨v, h1, h2, h3⟩ := h.box
  have n1 := h.n1
  have nv := h.nv
  exact ⟨⟨v, h1.ch hc n1.2.1, h2.ch hc (fun g e => by rw [h3] at e; intro e2; exact nv.2.2 (by rw [e, e2])), h3⟩, h.mp.ch hc n1.2.2, hm, h.nv, h.n1, h.hb⟩
theorem infoItem : (Try.prog.info? 79).map (fun i => (i.zero, i.size, i.bytes)) = some (some (.agg #[.string ⟨#[]⟩, .int .i64 0]), 2, 24) := by kernel_rfl

theorem itemO_one (x : ByteArray × Nat) : ∀ u ∈ itemO x, u.oneCell' = true := by
  intro u hu
  simp [itemO] at hu
  rcases hu with rfl | rfl <;> rfl
/-- One item is appended. -/
theorem step_append_item {w : World} {ops : Array Oper} {o : Oper} {a : Act} {K : Act → World → Prop} {Q : Exit → Act → World → Prop} {E : Prop} (hgd : o.guard = none) (s y : Operand)
    (ho : o.op = .call { callee := .builtin .append, args := #[s, y], argTypes := #[70, 70] }) {base p : Nat} {v : Value} {xs : List (ByteArray × Nat)} {x : ByteArray × Nat} (he : a.eval s = v) (hy : a.eval y = .slice (some ⟨p, 0, none⟩) 1 1)
    (hv : ORow 2 itemO w base v xs) (hp : Blk w p #[.string x.1, .int .i64 (x.2 : Nat)] 79) (hbase : base ≤ w.heap.size) (hl : xs.length ≤ 4194304)
    (h : ∀ g off cap w', ORow 2 itemO w' base (.slice (some ⟨g, off, none⟩) (xs.length + 1) cap) (xs ++ [x]) → w.grownBy w' v.ownBlock → (v.ownBlock = some g ∨ w.heap.size ≤ g) → K (a.put o.dst (.slice (some ⟨g, off, none⟩) (xs.length + 1) cap)) w') :
    if Region.wanted o (yielded ops a.tmps) = true then Oper.wp Try.prog o a w K Q else E := by
  obtain ⟨i0, hinfo, hz0, hz1, hz2⟩ := info_parts infoItem
  refine step_append_off itemO_len itemO_one (by decide) hgd s y 70 ho hv Try.underlying70 hinfo hz0 hz1 hz2 rfl he hy (x := x) ?_ hbase (by unfold maxLen; omega) (by omega) h
  intro j u hu
  rw [hp.cell]
  simpa [itemO] using hu
/-- pushed's end: the item is appended. -/
theorem pushed_fin {q b1 b2 : Nat} {vb : Option Nat} {base : Nat} {st : QSt} {x : ByteArray × Nat} {w w3 wa w5 : World} {v : Value} {g off cap : Nat} (HQ : Qu w3 q b1 b2 vb base st) (HC : Ch (Qf q b1 b2 vb) w w3) (hb : Blk w3 q #[.int .i64 (st.many : Nat), v, .map (some b1), .map (some b2)] 72) (hv : v.ownBlock = vb)
    (ha : Ch (fun _ => False) w3 wa) (hown : ORow 2 itemO w5 base (.slice (some ⟨g, off, none⟩) (st.l.length + 1) cap) (st.l ++ [x])) (hgrow : wa.grownBy w5 v.ownBlock) (hg : v.ownBlock = some g ∨ wa.heap.size ≤ g) :
    QPost q b1 b2 vb base ({ st with l := st.l ++ [x] }, true) w (.returned (.bool true)) (w5.setCell ⟨q, 1, none⟩ (.slice (some ⟨g, off, none⟩) (st.l.length + 1) cap)) := by
  have l1 := fun k h => (HQ.lt (k := k) h).2
  have hsz := ha.size
  have hnew : ∀ k, Qf q b1 b2 none k → g ≠ k := by
    intro k hk e
    subst e
    rcases hg with h | h
    · have nv := HQ.nv
      rcases hk with rfl | rfl | rfl | hk
      · exact nv.1 (by rw [← hv, h])
      · exact nv.2.1 (by rw [← hv, h])
      · exact nv.2.2 (by rw [← hv, h])
      · cases hk
    · have := l1 g (by rcases hk with h | h | h | h; exact .inl h; exact .inr (.inl h); exact .inr (.inr (.inl h)); cases h)
      omega
  have cg : Ch (fun k => vb = some k) w3 w5 := (ha.mono (fun _ h => h.elim)).trans ((Ch.of_grown hgrow).mono (fun k e => by rw [← hv]; exact e.symm))
  have cg2 : Ch (fun k => vb = some k ∨ k = q) w3 (w5.setCell ⟨q, 1, none⟩ (.slice (some ⟨g, off, none⟩) (st.l.length + 1) cap)) := (cg.mono (fun k e => .inl e)).set (p := ⟨q, 1, none⟩) (.inr (.inr rfl)) _
  have nv := HQ.nv
  have n1 := HQ.n1
  refine ⟨some g, rfl, ⟨⟨.slice (some ⟨g, off, none⟩) (st.l.length + 1) cap, ?_, ?_, rfl⟩, ?_, ?_, ⟨fun e => hnew q (.inl rfl) (by simpa using e), fun e => hnew b1 (.inr (.inl rfl)) (by simpa using e), fun e => hnew b2 (.inr (.inr (.inl rfl))) (by simpa using e)⟩, HQ.n1, HQ.hb⟩, ?_, ?_⟩
  · have := (hb.ch cg nv.1).set 1 (.slice (some ⟨g, off, none⟩) (st.l.length + 1) cap)
    simpa using this
  · have h1 := hown.ch (S := fun k => k = q) (Ch.set (S := fun k => k = q) (p := ⟨q, 1, none⟩) (Ch.refl _ w5) (.inr rfl) (.slice (some ⟨g, off, none⟩) (st.l.length + 1) cap)) (fun k e => by simp [Value.ownBlock] at e; subst e; exact hnew q (.inl rfl))
    simpa using h1
  · exact HQ.mp.ch cg2 (by rintro (e | e); exact nv.2.1 e; exact n1.1 e.symm)
  · exact HQ.mq.ch cg2 (by rintro (e | e); exact nv.2.2 e; exact n1.2.1 e.symm)
  · intro k e
    obtain rfl : g = k := by simpa using e
    rcases hg with h | h
    · exact .inl (by rw [← hv, h])
    · right
      have := HC.size
      omega
  · exact HC.trans (cg2.mono (fun k e => by rcases e with e | e; exact .inr (.inr (.inr e)); exact .inl e))

set_option maxRecDepth 100000 in
set_option maxHeartbeats 4000000 in
theorem pushed_any {q b1 b2 : Nat} {vb : Option Nat} {base : Nat} {st : QSt} (e : Ev) (w : World) (h : Qu w q b1 b2 vb base st) (hl : st.l.length ≤ 4194304) (hm : 1 ≤ st.many ∧ st.many ≤ 4194304) (hbase : base ≤ w.heap.size) :
    Calls Try.prog 39 #[.pointer (some ⟨q, 0, none⟩), evV e] w (QPost q b1 b2 vb base (pushQ st e) w) := by
  have hb0 := below1 w (.cells #[.bool e.push, .int .i64 (e.id : Nat), .string e.item] 29)
  have H0 := h.below hb0
  obtain ⟨v, h1, h2, h3⟩ := H0.box
  obtain ⟨q1, q2⟩ := h1.laterCells
  obtain ⟨q3, q4⟩ := (Blk.new w #[.bool e.push, .int .i64 (e.id : Nat), .string e.item] 29).laterCells
  have hlk := fun x : Later (w.alloc (.cells #[.bool e.push, .int .i64 (e.id : Nat), .string e.item] 29)) => (H0.mp.below x.h).look keyI Try.underlying68 (zeroBool _) (e.id : Int) false
  have hlv : lookV Value.bool (.bool false) (getA (e.id : Int) st.pu) false = .bool (hadF st e.id) := by unfold lookV hadF; cases getA (e.id : Int) st.pu <;> rfl
  rw [hlv] at hlk
  have HQ := Lib.hid H0
  have HQ1b := Lib.hid h
  have HBE := Lib.hid (Blk.new w #[.bool e.push, .int .i64 (e.id : Nat), .string e.item] 29)
  unfold evV
  by_cases hh : hadF st (e.id : Int) = true
  · have hp : pushQ st e = (st, false) := by unfold pushQ; rw [if_pos hh]
    rw [hp]
    rw [hh] at hlk
    have HB0 := Lib.hid hb0
    clear hp h1 h2 h3 h hlv H0 hb0
    go_enter Try.func39, Try.ntmps39
    go_wp2_with fail
    refine wp_region_later (by kernel_rfl) (by kernel_rfl) ?_
    repeat (go_big_quiet_step (fail))
    refine wpQuiet_nil ?_
    rintro _ ⟨x, rfl⟩
    go_wp2_with fail
    exact bodyPost_ret (v := .bool false) (by simp [results, Try.results39, go_sem]) rfl ⟨vb, rfl, HQ.out.below x.h, fun g e => .inl e, (Ch.of_below _ HB0.out).call x.h⟩
  · have hp : pushQ st e = ({ st with pu := putA (e.id : Int) true st.pu, l := st.l ++ [(e.item, st.many - 1)] }, true) := by unfold pushQ; rw [if_neg hh]
    rw [hp]
    have hh2 : hadF st (e.id : Int) = false := by simpa using hh
    rw [hh2] at hlk
    have HB0 := Lib.hid hb0
    clear hp h hlv hh h1 h2 h3 H0 hb0
    go_enter Try.func39, Try.ntmps39
    go_wp2_with fail
    refine wp_region_later (by kernel_rfl) (by kernel_rfl) ?_
    repeat (go_big_quiet_step (fail))
    refine wpQuiet_nil ?_
    rintro _ ⟨x, rfl⟩
    have HQ1 := Lib.hid (HQ.out.below x.h)
    have HE1 := Lib.hid (HBE.out.below x.h)
    have HC1 := Lib.hid ((Ch.of_below (Qf q b1 b2 vb) HB0.out).call x.h)
    obtain ⟨w1, hw1⟩ : ∃ w1, w1 = x.w := ⟨_, rfl⟩
    rw [← hw1] at HQ1 HE1 HC1 ⊢
    clear hw1 hlk q1 q2 q3 q4 HQ HBE
    obtain ⟨v, h1, h2, h3⟩ := HQ1.out.box
    obtain ⟨q1, q2⟩ := h1.laterCells
    obtain ⟨q3, q4⟩ := HE1.out.laterCells
    have hc1 := HC1.out.size
    clear h1 h2 h3
    go_wp2_with fail
    refine wp_region_quiet_tail 6 (C := fun w' => ∃ x : Later w1, w' = x.w) (by kernel_rfl) (by kernel_rfl) ⟨⟨w1.drew, (Below.refl _ _).drew⟩, rfl⟩ ?_
    simp only [List.take_succ_cons, List.take_zero, List.drop_succ_cons, List.drop_zero]
    repeat (go_big_quiet_step (fail))
    refine wpQuiet_nil ?_
    rintro _ ⟨x, rfl⟩
    have HQ2 := Lib.hid (HQ1.out.below x.h)
    have HE2 := Lib.hid (HE1.out.below x.h)
    have HC2 := Lib.hid (HC1.out.call x.h)
    obtain ⟨w2, hw2⟩ : ∃ w2, w2 = x.w := ⟨_, rfl⟩
    rw [← hw2] at HQ2 HE2 HC2 ⊢
    clear hw2 q1 q2 q3 q4 HQ1 HE1 HC1
    go_wp2_with (at_mapUpdate; refine wpList_store_map rfl _ _ _ 68 rfl keyI Try.underlying68 rfl HQ2.out.mp (e.id : Int) true rfl rfl ?_)
    intro w3 hm3 hc3
    have HQ3 := Lib.hid (HQ2.out.putPu hm3 hc3)
    have HE3 := Lib.hid (HE2.out.ch hc3 (by have := (HQ1b.out.lt (k := b1) (.inr (.inl rfl))).2; omega))
    have HC3 := Lib.hid (HC2.out.step hc3 (fun k _ e => .inr (.inl e)))
    clear hm3 hc3 HQ2 HE2 HC2
    obtain ⟨v, h1, h2, h3⟩ := HQ3.out.box
    obtain ⟨q1, q2⟩ := h1.cells
    obtain ⟨q3, q4⟩ := HE3.out.cells
    have hc3 := HC3.out.size
    have HG1 := Lib.hid h1
    have HOW := Lib.hid (fun w' (hc : Ch (fun _ => False) w3 w') => h2.ch hc (fun _ _ => id))
    have HV := Lib.hid h3
    have HNQ := Lib.hid (show ¬ some q = v.ownBlock by rw [h3]; exact fun e => HQ3.out.nv.1 e.symm)
    have hbase3 : base ≤ w3.heap.size := by omega
    have hq3 := h1.lt
    have he3 := HE3.out.lt
    have hmw : wrap64 ((st.many : Int) - 1) = ((st.many - 1 : Nat) : Int) := by rw [IntWalk.wrap64_in _ (by omega)]; omega
    have hmw2 : IntKind.i64.wrap ((st.many : Int) - 1) = ((st.many - 1 : Nat) : Int) := by rw [IntWalk.i64_in _ (by omega)]; omega
    clear h1 h2 h3
    go_wp2_with fail
    go_region_law (refine step_append_item (x := (e.item, st.many - 1)) rfl (.tmp 22) (.tmp 31) rfl rfl rfl (HOW.out _ (by (repeat (first | with_reducible assumption | with_reducible exact Ch.refl _ _ | with_reducible refine Ch.drew ?_ | with_reducible refine Ch.alloc ?_ _ | (with_reducible refine Ch.set' ?_ ?_; focus (first | (right; rfl; done) | (left; simp; done) | (left; simp; omega) | (left; omega) | (right; simp; done) | (right; simp; omega))))))) (by (repeat (first | (with_reducible refine Blk.new' ?_; first | rfl | (simp; done) | (simp; omega)) | with_reducible refine Blk.drew ?_ | with_reducible refine Blk.alloc ?_ _))) (by simp; omega) hl ?_
                   intro g5 off5 cap5 w5 hown5 hgrow5 hg5
                   obtain ⟨z1, z2⟩ := ((HG1.out.alloc (.cells #[.string e.item, .int .i64 ((st.many - 1 : Nat) : Int)] 79)).drew.ch (Ch.of_grown hgrow5) HNQ.out).cells)
    all_goals
      go_wp2_with fail
      exact bodyPost_ret (v := .bool true) (by simp [results, Try.results39, go_sem]) rfl (pushed_fin HQ3.out HC3.out HG1.out HV.out (((Ch.refl (fun _ => False) w3).alloc (.cells #[.string e.item, .int .i64 ((st.many - 1 : Nat) : Int)] 79)).drew) hown5 hgrow5 hg5)
end Go.Proofs.Ythknfikjanoflaa
