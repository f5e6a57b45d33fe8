/- queue's popped and Add. -/
import Derived.Test.YthknfikjanoflaaQA
set_option linter.unusedVariables false
set_option linter.unusedSimpArgs false
namespace Go.Proofs.Ythknfikjanoflaa
open Go.RowKit

/-- What a pop takes. -/
def pullF (st : QSt) : QSt × (ByteArray × Bool) := match st.l with
  | [] => (st, (⟨#[]⟩, false))
  | x :: l => ({ st with l := l }, (x.1, true))
def PullPost (q b1 b2 : Nat) (vb : Option Nat) (base : Nat) (r : QSt × (ByteArray × Bool)) (w : World) (e : Ending) (w' : World) : Prop :=
  e = .returned (gotO r.2) ∧ Qu w' q b1 b2 vb base r.1 ∧ Ch (· = q) w w'

/-- The row is cut: what the store leaves. -/
theorem pull_fin {q b1 b2 : Nat} {vb : Option Nat} {base : Nat} {st : QSt} {l : List (ByteArray × Nat)} {w w1 : World} {v v' : Value} (h : Qu w q b1 b2 vb base st) (hb : Blk w q #[.int .i64 (st.many : Nat), v, .map (some b1), .map (some b2)] 72) (hc : Below w.heap.size w w1) (hv : v'.ownBlock = vb) (hl : ORow 2 itemO w base v' l) :
    Qu (w1.setCell ⟨q, 1, none⟩ v') q b1 b2 vb base { st with l := l } := by
  have h1 := h.below hc
  have nv := h.nv
  have n1 := h.n1
  have hs : Ch (· = q) w1 (w1.setCell ⟨q, 1, none⟩ v') := Ch.set (S := (· = q)) (p := ⟨q, 1, none⟩) (Ch.refl _ w1) (.inr rfl) v'
  refine ⟨⟨v', ?_, (hl.below hc).ch hs (fun g e => by rw [hv] at e; intro e2; exact nv.1 (by rw [e, e2])), hv⟩, h1.mp.ch hs (fun e => n1.1 e.symm), h1.mq.ch hs (fun e => n1.2.1 e.symm), nv, n1, h.hb⟩
  have := (hb.below hc).set 1 v'
  simpa using this

theorem pull_tail {q b1 b2 : Nat} {vb : Option Nat} {base : Nat} {st : QSt} {w w1 : World} {u1 u2 : Value} (h0 : ∀ {k : Nat}, Qf q b1 b2 vb k → base ≤ k ∧ k < w.heap.size) (h : Qu w1 q b1 b2 vb base st) :
    Qu ((w1.setCell ⟨w.heap.size, 0, none⟩ u1).setCell ⟨w.heap.size, 1, none⟩ u2) q b1 b2 vb base st :=
  (h.ch (S := (· = w.heap.size)) (((Ch.refl (· = w.heap.size) w1).set (p := ⟨w.heap.size, 0, none⟩) (.inr rfl) u1).set (p := ⟨w.heap.size, 1, none⟩) (.inr rfl) u2) (fun k hk e => by have := (h0 hk).2; omega))

set_option maxRecDepth 100000 in
set_option maxHeartbeats 4000000 in
theorem pull_any {q b1 b2 : Nat} {vb : Option Nat} {base : Nat} {st : QSt} (b : Nat) (w : World) (h : Qu w q b1 b2 vb base st) (hb : Blk w b #[.pointer (some ⟨q, 0, none⟩)] 36) (hbq : b ≠ q) :
    Calls Try.prog 48 #[.pointer (some ⟨b, 0, none⟩)] w (PullPost q b1 b2 vb base (pullF st) w) := by
  obtain ⟨v, h1, h2, h3⟩ := h.box
  obtain ⟨q1, q2⟩ := h1.cells
  obtain ⟨q3, q4⟩ := hb.cells
  have hblt := hb.lt
  have hqlt := h1.lt
  have HQ := Lib.hid h
  have HB := Lib.hid h1
  have HBB := Lib.hid hb
  cases hl : st.l with
  | nil =>
    have hv : pullF st = (st, (⟨#[]⟩, false)) := by unfold pullF; rw [hl]
    obtain ⟨a, cap, rfl, _, _⟩ := h2.slice
    rw [hl] at q1
    rw [hv]
    clear h h1 h2 h3 hl hv hb
    go_enter Try.func48, Try.ntmps48
    go_wp2_with fail
    exact bodyPost_ret (v := gotO (⟨#[]⟩, false)) (by simp [results, Try.results48, go_sem, gotO]) rfl ⟨rfl, HQ.out.below (below1 _ _), Ch.of_below _ (below1 _ _)⟩
  | cons x l =>
    have hv : pullF st = ({ st with l := l }, (x.1, true)) := by unfold pullF; rw [hl]
    have h2c := h2
    rw [hl] at h2c
    obtain ⟨g, off, cap, rfl, hcut⟩ := h2c.cut itemO_len
    obtain ⟨g', off', cap', e', hat⟩ := h2.at itemO_len (i := 0) (x := x) (by rw [hl]; rfl)
    injection e' with a1 a2 a3
    injection a1 with a1
    injection a1 with a4 a5 a6
    subst a4 a5
    have hglt := (h2.own (g := g) rfl).2
    have c0 : w.cell? ⟨g, off, none⟩ = some (.string x.1) := by simpa using hat 0 _ rfl
    have c1 : w.cell? ⟨g, off + 1, none⟩ = some (.int .i64 (x.2 : Nat)) := by simpa using hat 1 _ rfl
    have HC := Lib.hid hcut
    have H3 := Lib.hid h3
    rw [hv]
    clear h h1 h2 h3 hl hv hat h2c hcut hb a2 a3
    by_cases hcap : cap = 0
    · subst hcap
      rw [Nat.zero_add] at q1
      have HC := Lib.hid (show ORow 2 itemO w base (.slice (some ⟨g, off, none⟩) l.length 0) l from by have := HC.out; rwa [if_pos rfl] at this)
      go_enter Try.func48, Try.ntmps48
      go_wp2_with fail
      obtain ⟨z1, z2⟩ := (HB.out.below (below2 w (.cells #[.string ⟨#[]⟩, .bool false] 76) (.cells #[.string x.1, .int .i64 (x.2 : Nat)] 79))).laterCells
      obtain ⟨z3, z4⟩ := (HBB.out.below (below2 w (.cells #[.string ⟨#[]⟩, .bool false] 76) (.cells #[.string x.1, .int .i64 (x.2 : Nat)] 79))).laterCells
      have HX := Lib.hid (Blk.new (w.alloc (.cells #[.string ⟨#[]⟩, .bool false] 76)) #[.string x.1, .int .i64 (x.2 : Nat)] 79)
      rw [show (w.alloc (.cells #[.string ⟨#[]⟩, .bool false] 76)).heap.size = w.heap.size + 1 by simp] at HX
      have HG := Lib.hid ((Blk.new w #[.string ⟨#[]⟩, .bool false] 76).alloc (.cells #[.string x.1, .int .i64 (x.2 : Nat)] 79))
      have HB2 := Lib.hid (below2 w (.cells #[.string ⟨#[]⟩, .bool false] 76) (.cells #[.string x.1, .int .i64 (x.2 : Nat)] 79))
      obtain ⟨w1, hw1⟩ : ∃ w1, w1 = (w.alloc (.cells #[.string ⟨#[]⟩, .bool false] 76)).alloc (.cells #[.string x.1, .int .i64 (x.2 : Nat)] 79) := ⟨_, rfl⟩
      rw [← hw1] at z1 z2 z3 z4 HX HG HB2 ⊢
      clear hw1
      refine wp_region_quiet_tail 6 (C := fun w' => ∃ x : Later w1, w' = x.w) (by kernel_rfl) (by kernel_rfl) ⟨⟨w1.drew, (Below.refl _ _).drew⟩, rfl⟩ ?_
      simp only [List.take_succ_cons, List.take_zero, List.drop_succ_cons, List.drop_zero]
      repeat (go_big_quiet_step (fail))
      refine wpQuiet_nil ?_
      rintro _ ⟨y, rfl⟩
      have HB3 := Lib.hid (HB2.out.trans (y.h.mono HB2.out.size))
      have HX3 := Lib.hid (HX.out.below y.h)
      have HG3 := Lib.hid (HG.out.below y.h)
      obtain ⟨w2, hw2⟩ : ∃ w2, w2 = y.w := ⟨_, rfl⟩
      rw [← hw2] at HB3 HX3 HG3 ⊢
      clear hw2 z1 z2 z3 z4 HX HB2 HG
      obtain ⟨z1, z2⟩ := (HB.out.below HB3.out).cells
      obtain ⟨z5, z6⟩ := HX3.out.cells
      have BG := HG3.out
      obtain ⟨z7, z8⟩ := BG.cells
      have hne : ¬ (w.heap.size + 1 = q) := by omega
      have hne2 : ¬ (w.heap.size = q) := by omega
      clear BG
      go_wp2_with fail
      obtain ⟨y1, y2⟩ := (show Blk _ w.heap.size #[.string x.1, .bool true] 76 from (((HG3.out.far (p := ⟨q, 1, none⟩) (by simpa using hne2) (.slice (some ⟨g, off, none⟩) l.length 0)).set 0 (.string x.1)).set 1 (.bool true))).cells
      have HQF := pull_fin HQ.out HB.out HB3.out (show (Value.slice (some ⟨g, off, none⟩) l.length 0).ownBlock = vb from H3.out) HC.out
      have HCF := Ch.set (S := (· = q)) (p := ⟨q, 1, none⟩) (Ch.of_below (· = q) HB3.out) (.inr rfl) (.slice (some ⟨g, off, none⟩) l.length 0)
      refine bodyPost_ret (v := gotO (x.1, true)) (by simp [results, Try.results48, go_sem, gotO, y1]) rfl ⟨rfl, pull_tail HQ.out.lt HQF, (HCF.set (p := ⟨w.heap.size, 0, none⟩) (.inl (Nat.le_refl _)) _).set (p := ⟨w.heap.size, 1, none⟩) (.inl (Nat.le_refl _)) _⟩
    · have HC := Lib.hid (show ORow 2 itemO w base (.slice (some ⟨g, off + 2, none⟩) l.length cap) l from by have := HC.out; rwa [if_neg hcap] at this)
      go_enter Try.func48, Try.ntmps48
      go_wp2_with fail
      obtain ⟨z1, z2⟩ := (HB.out.below (below2 w (.cells #[.string ⟨#[]⟩, .bool false] 76) (.cells #[.string x.1, .int .i64 (x.2 : Nat)] 79))).laterCells
      obtain ⟨z3, z4⟩ := (HBB.out.below (below2 w (.cells #[.string ⟨#[]⟩, .bool false] 76) (.cells #[.string x.1, .int .i64 (x.2 : Nat)] 79))).laterCells
      have HX := Lib.hid (Blk.new (w.alloc (.cells #[.string ⟨#[]⟩, .bool false] 76)) #[.string x.1, .int .i64 (x.2 : Nat)] 79)
      rw [show (w.alloc (.cells #[.string ⟨#[]⟩, .bool false] 76)).heap.size = w.heap.size + 1 by simp] at HX
      have HG := Lib.hid ((Blk.new w #[.string ⟨#[]⟩, .bool false] 76).alloc (.cells #[.string x.1, .int .i64 (x.2 : Nat)] 79))
      have HB2 := Lib.hid (below2 w (.cells #[.string ⟨#[]⟩, .bool false] 76) (.cells #[.string x.1, .int .i64 (x.2 : Nat)] 79))
      obtain ⟨w1, hw1⟩ : ∃ w1, w1 = (w.alloc (.cells #[.string ⟨#[]⟩, .bool false] 76)).alloc (.cells #[.string x.1, .int .i64 (x.2 : Nat)] 79) := ⟨_, rfl⟩
      rw [← hw1] at z1 z2 z3 z4 HX HG HB2 ⊢
      clear hw1
      refine wp_region_quiet_tail 6 (C := fun w' => ∃ x : Later w1, w' = x.w) (by kernel_rfl) (by kernel_rfl) ⟨⟨w1.drew, (Below.refl _ _).drew⟩, rfl⟩ ?_
      simp only [List.take_succ_cons, List.take_zero, List.drop_succ_cons, List.drop_zero]
      repeat (go_big_quiet_step (fail))
      refine wpQuiet_nil ?_
      rintro _ ⟨y, rfl⟩
      have HB3 := Lib.hid (HB2.out.trans (y.h.mono HB2.out.size))
      have HX3 := Lib.hid (HX.out.below y.h)
      have HG3 := Lib.hid (HG.out.below y.h)
      obtain ⟨w2, hw2⟩ : ∃ w2, w2 = y.w := ⟨_, rfl⟩
      rw [← hw2] at HB3 HX3 HG3 ⊢
      clear hw2 z1 z2 z3 z4 HX HB2 HG
      obtain ⟨z1, z2⟩ := (HB.out.below HB3.out).cells
      obtain ⟨z5, z6⟩ := HX3.out.cells
      have BG := HG3.out
      obtain ⟨z7, z8⟩ := BG.cells
      have hne : ¬ (w.heap.size + 1 = q) := by omega
      have hne2 : ¬ (w.heap.size = q) := by omega
      clear BG
      go_wp2_with fail
      obtain ⟨y1, y2⟩ := (show Blk _ w.heap.size #[.string x.1, .bool true] 76 from (((HG3.out.far (p := ⟨q, 1, none⟩) (by simpa using hne2) (.slice (some ⟨g, off + 2, none⟩) l.length cap)).set 0 (.string x.1)).set 1 (.bool true))).cells
      have HQF := pull_fin HQ.out HB.out HB3.out (show (Value.slice (some ⟨g, off + 2, none⟩) l.length cap).ownBlock = vb from H3.out) HC.out
      have HCF := Ch.set (S := (· = q)) (p := ⟨q, 1, none⟩) (Ch.of_below (· = q) HB3.out) (.inr rfl) (.slice (some ⟨g, off + 2, none⟩) l.length cap)
      refine bodyPost_ret (v := gotO (x.1, true)) (by simp [results, Try.results48, go_sem, gotO, y1]) rfl ⟨rfl, pull_tail HQ.out.lt HQF, (HCF.set (p := ⟨w.heap.size, 0, none⟩) (.inl (Nat.le_refl _)) _).set (p := ⟨w.heap.size, 1, none⟩) (.inl (Nat.le_refl _)) _⟩

theorem pull_po (st : QSt) : (pullF st).1.po = st.po := by
  unfold pullF
  cases st.l <;> rfl
theorem popQ_pull (st : QSt) (e : Ev) (h : ¬ (getA (e.id : Int) st.po).isSome = true) : popQ st e = ({ (pullF st).1 with po := putA (e.id : Int) (pullF st).2 (pullF st).1.po }, true) := by
  obtain ⟨m, l, pu, po⟩ := st
  unfold popQ pullF
  rw [if_neg h]
  cases l <;> rfl

set_option maxRecDepth 100000 in
set_option maxHeartbeats 4000000 in
theorem popped_any {q b1 b2 : Nat} {vb : Option Nat} {base : Nat} {st : QSt} (e : Ev) (w : World) (h : Qu w q b1 b2 vb base st) (hbase : base ≤ w.heap.size) :
    Calls Try.prog 40 #[.pointer (some ⟨q, 0, none⟩), evV e] w (QPost q b1 b2 vb base (popQ st e) w) := by
  have hb0 := below2 w (.cells #[.pointer (some ⟨q, 0, none⟩)] 36) (.cells #[.bool e.push, .int .i64 (e.id : Nat), .string e.item] 29)
  have H0 := h.below hb0
  have B0 := (Blk.new w #[.pointer (some ⟨q, 0, none⟩)] 36).alloc (.cells #[.bool e.push, .int .i64 (e.id : Nat), .string e.item] 29)
  have E0 := Blk.new (w.alloc (.cells #[.pointer (some ⟨q, 0, none⟩)] 36)) #[.bool e.push, .int .i64 (e.id : Nat), .string e.item] 29
  rw [show (w.alloc (.cells #[.pointer (some ⟨q, 0, none⟩)] 36)).heap.size = w.heap.size + 1 by simp] at E0
  have hql := (h.lt (.inl rfl)).2
  obtain ⟨rr, hrr⟩ : ∃ r, popQ st e = r := ⟨_, rfl⟩
  rw [hrr]
  have HR := Lib.hid hrr
  clear hrr
  unfold evV
  go_enter Try.func40, Try.ntmps40
  go_wp2_with fail
  obtain ⟨w0, hw0⟩ : ∃ w0, w0 = (w.alloc (.cells #[.pointer (some ⟨q, 0, none⟩)] 36)).alloc (.cells #[.bool e.push, .int .i64 (e.id : Nat), .string e.item] 29) := ⟨_, rfl⟩
  rw [← hw0] at hb0 H0 B0 E0 ⊢
  clear hw0
  have HQ := Lib.hid H0
  have HB := Lib.hid B0
  have HE := Lib.hid E0
  have HBL := Lib.hid hb0
  obtain ⟨v, h1, h2, h3⟩ := H0.box
  obtain ⟨q1, q2⟩ := h1.cells
  obtain ⟨q3, q4⟩ := B0.cells
  obtain ⟨q5, q6⟩ := E0.cells
  have l1 := h1.lt
  have l2 := B0.lt
  have l3 := E0.lt
  have hlk := fun x : Later w0 => (H0.mq.below x.h).look keyI Try.underlying69 (zeroGot _) (e.id : Int) true
  have hlkA := hlk ⟨w0.drew, (Below.refl _ _).drew⟩
  have hlkB := hlk ⟨(w0.alloc (.cells #[.string ⟨#[]⟩, .bool false] 76)).drew, (below1 w0 _).drew⟩
  simp only at hlkA hlkB
  obtain ⟨s, o, i, hi, hlv⟩ : ∃ (s : ByteArray) (o i : Bool), (getA (e.id : Int) st.po).isSome = i ∧ lookV gotO (.agg #[.string ⟨#[]⟩, .bool false]) (getA (e.id : Int) st.po) true = .tuple #[.agg #[.string s, .bool o], .bool i] := by
    cases getA (e.id : Int) st.po with
    | none => exact ⟨_, _, _, rfl, rfl⟩
    | some g => exact ⟨_, _, _, rfl, rfl⟩
  rw [hlv] at hlkA hlkB
  have HI := Lib.hid hi
  clear hlk hlv hi h h1 h2 h3 H0 B0 E0 hb0
  go_cut [6] (fun v6 wx => v6 = .bool i ∧ Below w0.heap.size w0 wx)
  case first =>
    go_region_with fail
    all_goals
      go_wp2_with fail
      go_meet
      exact ⟨rfl, Ch.below (by (repeat (first | with_reducible assumption | with_reducible exact Ch.refl _ _ | with_reducible refine Ch.drew ?_ | with_reducible refine Ch.alloc ?_ _ | (with_reducible refine Ch.set' ?_ ?_; focus (first | (right; rfl; done) | (left; simp; done) | (left; simp; omega) | (left; omega) | (right; simp; done) | (right; simp; omega))))))⟩
  case rest =>
    obtain ⟨rfl, hbx⟩ := hcut
    have HQ1 := Lib.hid (HQ.out.below hbx)
    have HB1 := Lib.hid (HB.out.below hbx)
    have HE1 := Lib.hid (HE.out.below hbx)
    have HC1 := Lib.hid ((Ch.of_below (Qf q b1 b2 vb) HBL.out).call hbx)
    have l4 := HBL.out.size
    clear q1 q2 q3 q4 q5 q6 hlkA hlkB HQ HB HE HBL hbx
    cases i with
    | true =>
      have hp : popQ st e = (st, false) := by unfold popQ; rw [if_pos HI.out]
      have HR2 := Lib.hid (hp.symm.trans HR.out)
      clear hp
      go_wp2_with fail
      exact bodyPost_ret (v := .bool false) (by simp [results, Try.results40, go_sem]) rfl (by rw [← HR2.out]; exact ⟨vb, rfl, HQ1.out, fun g e => .inl e, HC1.out⟩)
    | false =>
      have hp := popQ_pull st e (by rw [HI.out]; simp)
      obtain ⟨v, h1, h2, h3⟩ := HQ1.out.box
      obtain ⟨q1, q2⟩ := h1.cells
      obtain ⟨q3, q4⟩ := HB1.out.cells
      obtain ⟨q5, q6⟩ := HE1.out.cells
      have HPL := Lib.hid (fun w' (hb : Below wc.heap.size wc w') => pull_any w.heap.size w' (HQ1.out.below hb) (HB1.out.below hb) (by omega))
      have HQL := Lib.hid (pull_po st)
      obtain ⟨⟨st2, got⟩, hst⟩ : ∃ r, pullF st = r := ⟨_, rfl⟩
      rw [hst] at HPL HQL hp
      simp only at hp HQL
      have HR2 := Lib.hid (hp.symm.trans HR.out)
      clear hp h1 h2 h3 hst
      go_wp2_with fail
      go_region_with (first
        | (go_at_call 48
           refine (HPL.out _ (Ch.below (by (repeat (first | with_reducible assumption | with_reducible exact Ch.refl _ _ | with_reducible refine Ch.drew ?_ | with_reducible refine Ch.alloc ?_ _ | (with_reducible refine Ch.set' ?_ ?_; focus (first | (right; rfl; done) | (left; simp; done) | (left; simp; omega) | (left; omega) | (right; simp; done) | (right; simp; omega)))))))).mono ?_
           intro e5 w5 hpost
           obtain ⟨rfl, Q5, c5⟩ := hpost
           obtain ⟨v5, g1, g2, g3⟩ := Q5.box
           obtain ⟨z1, z2⟩ := g1.cells
           obtain ⟨z3, z4⟩ := (HB1.out.drew.ch c5 (by omega)).cells
           obtain ⟨z5, z6⟩ := (HE1.out.drew.ch c5 (by omega)).cells
           obtain ⟨w6, hst, M6, c6, _⟩ := Q5.mq.store (P := Try.prog) keyI Try.underlying69 (e.id : Int) got
           have HQ6 := Lib.hid (Q5.putPo M6 c6)
           have HC6 := Lib.hid ((HC1.out.drew.step c5 (fun k _ e => .inl e)).step c6 (fun k _ e => .inr (.inr (.inl e))))
           clear g1 g2 g3 Q5 c5 M6 c6))
      all_goals
        go_wp2_with fail
        exact bodyPost_ret (v := .bool true) (by simp [results, Try.results40, go_sem]) rfl (by rw [← HR2.out]; exact ⟨vb, rfl, HQ6.out, fun g e => .inl e, HC6.out⟩)
end Go.Proofs.Ythknfikjanoflaa
