/- SessionForks: the walk: for any three tokens the law answers true. -/
import Derived.Test.YtjilfmphdncapaaSesForks
set_option linter.unusedVariables false
set_option linter.unusedSimpArgs false
namespace Go.Proofs.Ytjilfmphdncapaa
open Go.RowKit

/-- '==' of two of the reference's tokens, as one Bool. -/
theorem eqRefTok (d : Nat) (w : World) (x0 y0 x1 y1 : Int) :
    (Op.equalIn (d + 2) 23 (.agg #[.int .i64 x0, .int .i64 x1]) (.agg #[.int .i64 y0, .int .i64 y1])).run Try.prog w = .ok (x0 == y0 && (x1 == y1)) w := by
  refine runEq_struct Try.underlying23 (by kernel_rfl) ?_
  refine runEqFields_cons (by decide) (by go_simp; rfl) (by go_simp; rfl) (by go_simp) ?_
  exact runEqFields_last (by decide) (by go_simp; rfl) (by go_simp; rfl) (by go_simp)
attribute [local go_sem high] eqTok eqRefTok

/-- The three arguments' boxes. -/
structure Box3 (w0 w : World) (a b c : Int × Int) : Prop where
  h1 : Blk w w0.heap.size #[.int .i64 a.1, .int .i64 a.2] 23
  h2 : Blk w (w0.heap.size + 1) #[.int .i64 b.1, .int .i64 b.2] 23
  h3 : Blk w (w0.heap.size + 2) #[.int .i64 c.1, .int .i64 c.2] 23
  ch : Ch (fun _ => False) w0 w
theorem Box3.step {w0 w w1 : World} {a b c : Int × Int} {S : Nat → Prop} (h : Box3 w0 w a b c) (hc : Ch S w w1) (hS : ∀ k, S k → w0.heap.size + 3 ≤ k) : Box3 w0 w1 a b c :=
  ⟨h.h1.ch hc (fun e => by have := hS _ e; omega), h.h2.ch hc (fun e => by have := hS _ e; omega), h.h3.ch hc (fun e => by have := hS _ e; omega), h.ch.step hc (fun k hk e => by have := hS _ e; omega)⟩
theorem Box3.below {w0 w w1 : World} {a b c : Int × Int} (h : Box3 w0 w a b c) (hb : Below w.heap.size w w1) : Box3 w0 w1 a b c := h.step (Ch.of_below (fun _ => False) hb) (fun _ e => e.elim)
theorem Box3.cells {w0 w : World} {a b c : Int × Int} (h : Box3 w0 w a b c) :
    (∀ o, w.cell? ⟨w0.heap.size, o, none⟩ = #[.int .i64 a.1, .int .i64 a.2][o]?) ∧ (∀ o, w.cell? ⟨w0.heap.size + 1, o, none⟩ = #[.int .i64 b.1, .int .i64 b.2][o]?) ∧ (∀ o, w.cell? ⟨w0.heap.size + 2, o, none⟩ = #[.int .i64 c.1, .int .i64 c.2][o]?) := ⟨h.h1.cell, h.h2.cell, h.h3.cell⟩
theorem Box3.start (w : World) (a b c : Int × Int) : Box3 w (((w.alloc (.cells #[.int .i64 a.1, .int .i64 a.2] 23)).alloc (.cells #[.int .i64 b.1, .int .i64 b.2] 23)).alloc (.cells #[.int .i64 c.1, .int .i64 c.2] 23)) a b c :=
  ⟨by (repeat (first | (with_reducible refine Blk.new' ?_; first | rfl | (simp; done) | (simp; omega)) | with_reducible refine Blk.drew ?_ | with_reducible refine Blk.alloc ?_ _)), by (repeat (first | (with_reducible refine Blk.new' ?_; first | rfl | (simp; done) | (simp; omega)) | with_reducible refine Blk.drew ?_ | with_reducible refine Blk.alloc ?_ _)), by (repeat (first | (with_reducible refine Blk.new' ?_; first | rfl | (simp; done) | (simp; omega)) | with_reducible refine Blk.drew ?_ | with_reducible refine Blk.alloc ?_ _)), by (repeat (first | with_reducible assumption | with_reducible exact Ch.refl _ _ | with_reducible refine Ch.drew ?_ | with_reducible refine Ch.alloc ?_ _ | (with_reducible refine Ch.set' ?_ ?_; focus (first | (right; rfl; done) | (left; simp; done) | (left; simp; omega) | (left; omega) | (right; simp; done) | (right; simp; omega)))))⟩

set_option maxRecDepth 100000 in
set_option maxHeartbeats 4000000 in
theorem forks_walk (a b c : Int × Int) (w : World) :
    Calls Try.prog 7 #[.agg #[.int .i64 a.1, .int .i64 a.2], .agg #[.int .i64 b.1, .int .i64 b.2], .agg #[.int .i64 c.1, .int .i64 c.2]] w fun e w' => e = .returned (.bool true) ∧ Below w.heap.size w w' := by
  have B0 := Lib.hid (Box3.start w a b c)
  go_enter Try.func7, Try.ntmps7
  go_wp2_with fail
  refine (new_ok 1 _ (by omega) (by omega)).mono ?_
  rintro e w1 ⟨rfl, S1', hb1⟩
  have S1 : Ses w1 (w.heap.size + 1 + 1 + 1) 1 0 0 0 := by simpa using S1'
  have B1 := Lib.hid (B0.out.below hb1)
  have hs1 : w.heap.size + 3 ≤ w.heap.size + 1 + 1 + 1 := by omega
  obtain ⟨q1, q2, q3⟩ := B1.out.cells
  have R1 := wrote_any _ 1 0 0 0 a.1 a.2 w1 S1
  clear B0 S1 S1' hb1
  cases hra : rightB a.1 a.2 with
  | false =>
    rw [show wroteE a.1 a.2 = 1 by simp [wroteE, hra], show wroteT 0 0 a.1 a.2 = 0 by simp [wroteT, hra], show wroteN 0 0 a.1 a.2 = 0 by simp [wroteN, hra]] at R1
    have HR1 := Lib.hid R1; clear R1 hra
    go_wp2_with fail
    refine HR1.out.mono ?_
    rintro e w2 ⟨rfl, _, c2⟩
    have B2 := B1.out.step c2 (fun k e => by omega)
    have C2 := B2.ch
    clear q1 q2 q3 B1 B2 c2 HR1
    go_wp2_with fail
    refine (alive_any _).mono ?_
    rintro e w3 ⟨rfl, hb3⟩
    go_wp2
    go_ret
    exact ⟨rfl, (C2.call hb3).below⟩
  | true =>
    obtain ⟨ez1, ez2⟩ := max_zero hra
    rw [show wroteE a.1 a.2 = 0 by simp [wroteE, hra], show wroteT 0 0 a.1 a.2 = a.1 by simp [wroteT, hra, ez1], show wroteN 0 0 a.1 a.2 = a.2 by simp [wroteN, hra, ez2]] at R1
    have HR1 := Lib.hid R1; clear R1 hra ez1 ez2
    go_wp2_with fail
    refine HR1.out.mono ?_
    rintro e w2 ⟨rfl, S2, c2⟩
    have B2 := Lib.hid (B1.out.step c2 (fun k e => by omega))
    have HS2 := Lib.hid S2
    have HR2 := Lib.hid (fork_ok _ 1 0 a.1 a.2 2 w2 S2 (by omega) (by omega))
    clear q1 q2 q3 B1 c2 HR1 S2
    go_wp2_with fail
    refine HR2.out.mono ?_
    rintro e w3 ⟨f, rfl, hf, F3, hb3⟩
    have hfs : ¬ w.heap.size + 1 + 1 + 1 = f := by have := HS2.out.lt; omega
    have hsf : ¬ f = w.heap.size + 1 + 1 + 1 := by have := HS2.out.lt; omega
    have hf3 : w.heap.size + 3 ≤ f := by have := HS2.out.lt; omega
    have HS3 := Lib.hid (HS2.out.below hb3)
    have HF3 := Lib.hid F3
    have B3 := Lib.hid (B2.out.below hb3)
    obtain ⟨q1, q2, q3⟩ := B3.out.cells
    have R3 := wrote_any _ 1 0 a.1 a.2 b.1 b.2 w3 HS3.out
    clear HS2 F3 hb3 B2 HR2
    cases hrb : rightB b.1 b.2 with
    | false =>
      rw [show wroteE b.1 b.2 = 1 by simp [wroteE, hrb]] at R3
      have HR3 := Lib.hid R3; clear R3 hrb
      go_wp2_with fail
      refine HR3.out.mono ?_
      rintro e w4 ⟨rfl, _, c4⟩
      have C4 := (B3.out.step c4 (fun k e => by omega)).ch
      clear q1 q2 q3 B3 c4 HR3 HS3 HF3
      go_wp2_with fail
      refine (alive_any _).mono ?_
      rintro e w5 ⟨rfl, hb5⟩
      go_wp2
      go_ret
      exact ⟨rfl, (C4.call hb5).below⟩
    | true =>
      rw [show wroteE b.1 b.2 = 0 by simp [wroteE, hrb], show wroteT a.1 a.2 b.1 b.2 = maxT a.1 a.2 b.1 b.2 by simp [wroteT, hrb], show wroteN a.1 a.2 b.1 b.2 = maxN a.1 a.2 b.1 b.2 by simp [wroteN, hrb]] at R3
      have HR3 := Lib.hid R3; clear R3 hrb
      go_wp2_with fail
      refine HR3.out.mono ?_
      rintro e w4 ⟨rfl, S4, c4⟩
      have B4 := Lib.hid (B3.out.step c4 (fun k e => by omega))
      have HS4 := Lib.hid S4
      have HF4 := Lib.hid (HF3.out.ch c4 (by omega))
      clear q1 q2 q3 B3 c4 HR3 HS3 HF3 S4
      obtain ⟨q1, q2, q3⟩ := B4.out.cells
      have R4 := wrote_any _ 2 0 a.1 a.2 c.1 c.2 w4 HF4.out
      cases hrc : rightB c.1 c.2 with
      | false =>
        rw [show wroteE c.1 c.2 = 1 by simp [wroteE, hrc]] at R4
        have HR4 := Lib.hid R4; clear R4 hrc
        go_wp2_with fail
        refine HR4.out.mono ?_
        rintro e w5 ⟨rfl, _, c5⟩
        have C5 := (B4.out.step c5 (fun k e => by omega)).ch
        clear q1 q2 q3 B4 c5 HR4 HS4 HF4
        go_wp2_with fail
        refine (alive_any _).mono ?_
        rintro e w6 ⟨rfl, hb6⟩
        go_wp2
        go_ret
        exact ⟨rfl, (C5.call hb6).below⟩
      | true =>
        rw [show wroteE c.1 c.2 = 0 by simp [wroteE, hrc], show wroteT a.1 a.2 c.1 c.2 = maxT a.1 a.2 c.1 c.2 by simp [wroteT, hrc], show wroteN a.1 a.2 c.1 c.2 = maxN a.1 a.2 c.1 c.2 by simp [wroteN, hrc]] at R4
        have HR4 := Lib.hid R4; clear R4 hrc
        go_wp2_with fail
        refine HR4.out.mono ?_
        rintro e w5 ⟨rfl, F5, c5⟩
        have B5 := Lib.hid (B4.out.step c5 (fun k e => by omega))
        have HF5 := Lib.hid F5
        have HS5 := Lib.hid (HS4.out.ch c5 (by omega))
        clear q1 q2 q3 B4 c5 HR4 HS4 HF4 F5
        go_wp2_with fail
        have l1 := B5.out.h1.laterCells.1
        have l2 := B5.out.h2.laterCells.1
        have l3 := B5.out.h3.laterCells.1
        refine wp_region_later (by kernel_rfl) (by kernel_rfl) ?_
        repeat (go_big_quiet_step (first | (go_at_call 15; first | exact Calls.later (token_any _ _ _ _ _ _ (HS5.out.below (Later.h _))) | exact Calls.later (token_any _ _ _ _ _ _ (HF5.out.below (Later.h _)))) | (go_at_call 19; exact Calls.later (refMax_any _ _ _ _ _))))
        refine wpQuiet_nil ?_
        rintro _ ⟨x, rfl⟩
        have HS6 := Lib.hid (HS5.out.below x.h)
        have HF6 := Lib.hid (HF5.out.below x.h)
        have B6 := Lib.hid (B5.out.below x.h)
        clear l1 l2 l3 HS5 HF5 B5
        have R6 := join_any _ _ _ _ _ _ _ _ _ _ _ HS6.out HF6.out
        obtain ⟨m1, m2⟩ := max_join a.1 a.2 b.1 b.2 c.1 c.2
        rw [m1, m2] at R6
        have HR6 := Lib.hid R6
        clear R6 m1 m2
        go_wp2_with fail
        refine HR6.out.mono ?_
        rintro e w7 ⟨rfl, S7, c7⟩
        have B7 := Lib.hid (B6.out.step c7 (fun k e => by omega))
        have HS7 := Lib.hid S7
        have HF7 := Lib.hid (HF6.out.ch c7 (by omega))
        clear c7 S7 HS6 HF6 B6 HR6
        have R7 := join_any _ _ _ _ _ _ _ _ _ _ _ HF7.out HS7.out
        obtain ⟨m1, m2⟩ := max_join2 a.1 a.2 b.1 b.2 c.1 c.2
        rw [m1, m2] at R7
        have HR7 := Lib.hid R7
        clear R7 m1 m2
        go_wp2_with fail
        refine HR7.out.mono ?_
        rintro e w8 ⟨rfl, F8, c8⟩
        have B8 := Lib.hid (B7.out.step c8 (fun k e => by omega))
        have HF8 := Lib.hid F8
        have HS8 := Lib.hid (HS7.out.ch c8 (by omega))
        clear c8 F8 HS7 HF7 B7 HR7
        obtain ⟨q1, q2, q3⟩ := B8.out.cells
        go_wp2_with fail
        have l1 := B8.out.h1.laterCells.1
        have l2 := B8.out.h2.laterCells.1
        have l3 := B8.out.h3.laterCells.1
        refine wp_region_later (by kernel_rfl) (by kernel_rfl) ?_
        repeat (go_big_quiet_step (first | (go_at_call 15; first | exact Calls.later (token_any _ _ _ _ _ _ (HS8.out.below (Later.h _))) | exact Calls.later (token_any _ _ _ _ _ _ (HF8.out.below (Later.h _)))) | (go_at_call 19; exact Calls.later (refMax_any _ _ _ _ _)) | (go_at_call 11; exact Calls.later (alive_any _))))
        refine wpQuiet_nil ?_
        rintro _ ⟨x, rfl⟩
        have C9 := B8.out.ch.call x.h
        clear q1 q2 q3 l1 l2 l3 HS8 HF8 B8
        go_wp2
        go_ret
        exact ⟨by simp, C9.below⟩
theorem forks_row (a b c : Int × Int) (w : World) (_ : (Lit.int .i64 a.1).wf = true ∧ (Lit.int .i64 a.2).wf = true) (_ : (Lit.int .i64 b.1).wf = true ∧ (Lit.int .i64 b.2).wf = true) (_ : (Lit.int .i64 c.1).wf = true ∧ (Lit.int .i64 c.2).wf = true) :
    Calls Try.prog 7 #[.agg #[.int .i64 a.1, .int .i64 a.2], .agg #[.int .i64 b.1, .int .i64 b.2], .agg #[.int .i64 c.1, .int .i64 c.2]] w fun e w' => e = .returned (.bool true) ∧ Below w.heap.size w w' := forks_walk a b c w
end Go.Proofs.Ytjilfmphdncapaa
