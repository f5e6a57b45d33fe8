/- SessionOrder: the walk: for any three tokens the law answers true. -/
import Derived.Test.YtjilfmphdncapaaSesAlive
namespace Go.Proofs.Ytjilfmphdncapaa
open Go.RowKit

attribute [local go_sem high] eqTok

theorem less_self (a b : Int) : lessB a b a b = false := by simp [lessB]
theorem less_asym {a b c d : Int} (h : lessB a b c d = true) : lessB c d a b = false := by
  simp only [lessB, Bool.or_eq_true, Bool.and_eq_true, decide_eq_true_eq, beq_iff_eq, Bool.or_eq_false_iff, decide_eq_false_iff_not, Bool.and_eq_false_iff, beq_eq_false_iff_ne] at *
  omega
theorem less_trans {a b c d e f : Int} (h : lessB a b c d = true) (h2 : lessB c d e f = true) : lessB a b e f = true := by
  simp only [lessB, Bool.or_eq_true, Bool.and_eq_true, decide_eq_true_eq, beq_iff_eq] at *
  omega
theorem less_tri {a b c d : Int} (h : lessB a b c d = false) (h2 : lessB c d a b = false) : c = a ∧ d = b := by
  simp only [lessB, Bool.or_eq_false_iff, decide_eq_false_iff_not, Bool.and_eq_false_iff, beq_eq_false_iff_ne] at *
  omega

theorem less_ne {a b c d : Int} (h : lessB a b c d = true) : (c == a && d == b) = false := by
  simp only [lessB, Bool.or_eq_true, Bool.and_eq_true, decide_eq_true_eq, beq_iff_eq, Bool.and_eq_false_iff, beq_eq_false_iff_ne] at *
  omega
/-- Four blocks of two cells each, and what came before is as it was. -/
structure Four (w0 w : World) (b1 b2 b3 b4 : Nat) (c1 c2 c3 c4 : Array Value) : Prop where
  h1 : Blk w b1 c1 24
  h2 : Blk w b2 c2 24
  h3 : Blk w b3 c3 24
  h4 : Blk w b4 c4 24
  ch : Ch (fun _ => False) w0 w
theorem Four.below {w0 w w1 : World} {b1 b2 b3 b4 : Nat} {c1 c2 c3 c4 : Array Value} (h : Four w0 w b1 b2 b3 b4 c1 c2 c3 c4) (hb : Below w.heap.size w w1) : Four w0 w1 b1 b2 b3 b4 c1 c2 c3 c4 :=
  ⟨h.h1.below hb, h.h2.below hb, h.h3.below hb, h.h4.below hb, h.ch.call hb⟩
theorem Four.cells {w0 w : World} {b1 b2 b3 b4 : Nat} {c1 c2 c3 c4 : Array Value} (h : Four w0 w b1 b2 b3 b4 c1 c2 c3 c4) :
    (∀ o, w.cell? ⟨b1, o, none⟩ = c1[o]?) ∧ (∀ o, w.cell? ⟨b2, o, none⟩ = c2[o]?) ∧ (∀ o, w.cell? ⟨b3, o, none⟩ = c3[o]?) ∧ (∀ o, w.cell? ⟨b4, o, none⟩ = c4[o]?) :=
  ⟨h.h1.cell, h.h2.cell, h.h3.cell, h.h4.cell⟩

abbrev tok (a b : Int) : Array Value := #[.int .i64 a, .int .i64 b]

set_option maxRecDepth 100000 in
set_option maxHeartbeats 4000000 in
theorem order_walk (a b c d f g : Int) (w : World) :
    Calls Try.prog 3 #[.agg #[.int .i64 a, .int .i64 b], .agg #[.int .i64 c, .int .i64 d], .agg #[.int .i64 f, .int .i64 g]] w fun e w' => e = .returned (.bool true) ∧ Below w.heap.size w w' := by
  go_enter Try.func3, Try.ntmps3
  go_upto_region 1 with fail
  go_cut [7, 8, 9] (fun s7 s8 s9 wx => ∃ b1 b2 b3 : Nat, s7 = .pointer (some ⟨b1, 0, none⟩) ∧ s8 = .pointer (some ⟨b2, 0, none⟩) ∧ s9 = .pointer (some ⟨b3, 0, none⟩) ∧ Four w wx b1 b2 b3 b3 (tok a b) (tok c d) (tok f g) (tok f g))
  case first =>
    go_region
    all_goals
      go_wp2_with fail
      go_meet
      exact ⟨_, _, _, rfl, rfl, rfl, ⟨by (repeat (first | exact Blk.new' (by simp) | refine Blk.drew ?_ | refine Blk.alloc ?_ _)), by (repeat (first | exact Blk.new' (by simp) | refine Blk.drew ?_ | refine Blk.alloc ?_ _)), by (repeat (first | exact Blk.new' (by simp) | refine Blk.drew ?_ | refine Blk.alloc ?_ _)), by (repeat (first | exact Blk.new' (by simp) | refine Blk.drew ?_ | refine Blk.alloc ?_ _)), by (repeat (first | exact Ch.refl _ _ | with_reducible assumption | refine Ch.drew ?_ | refine Ch.alloc ?_ _ | refine Ch.set ?_ (by first | exact .inr rfl | exact .inl (by simp) | exact .inl (by simp; omega) | exact .inl (by omega) | exact .inr (by simp)) _))⟩⟩
  case rest =>
    obtain ⟨b1, b2, b3, rfl, rfl, rfl, hF⟩ := hcut
    have hxx := less_self a b
    have hyy := less_self c d
    cases hxy : lessB a b c d with
    | true =>
      obtain ⟨em1, em2⟩ := max_t hxy
      have hyx := less_asym hxy
      have hne := less_ne hxy
      cases hyz : lessB c d f g with
      | true =>
        have hxz := less_trans hxy hyz
        have F0 := Lib.hid hF
        obtain ⟨q1, q2, q3, q4⟩ := hF.cells
        clear hF
        go_wp2_with fail
        refine (max_any a b c d _).mono ?_
        rw [em1, em2]
        rintro e w1 ⟨rfl, hb⟩
        have F1 := Lib.hid (show Four w (w1.alloc (.cells (tok c d) 24)) b1 b2 b3 w1.heap.size (tok a b) (tok c d) (tok f g) (tok c d) from
          ⟨(F0.out.h1.below hb).alloc _, (F0.out.h2.below hb).alloc _, (F0.out.h3.below hb).alloc _, Blk.new _ _ _, (F0.out.ch.call hb).alloc _⟩)
        clear q1 q2 q3 q4 F0 hb em1 em2
        obtain ⟨q1, q2, q3, q4⟩ := F1.out.cells
        go_wp2_with (first | (go_at_call 10; refine (less_any _ _ _ _ _).mono ?_; rintro e w' ⟨rfl, hb⟩; have n0 := Lib.hid (F1.out.below hb); clear q1 q2 q3 q4 F1 hb; have F1 := n0; clear n0; obtain ⟨q1, q2, q3, q4⟩ := F1.out.cells) | (go_at_call 11; refine (alive_any _).mono ?_; rintro e w' ⟨rfl, hb⟩; have n0 := Lib.hid (F1.out.below hb); clear q1 q2 q3 q4 F1 hb; have F1 := n0; clear n0; obtain ⟨q1, q2, q3, q4⟩ := F1.out.cells))
        go_ret
        exact ⟨by simp, F1.out.ch.below⟩
      | false =>
        have F0 := Lib.hid hF
        obtain ⟨q1, q2, q3, q4⟩ := hF.cells
        clear hF
        go_wp2_with fail
        refine (max_any a b c d _).mono ?_
        rw [em1, em2]
        rintro e w1 ⟨rfl, hb⟩
        have F1 := Lib.hid (show Four w (w1.alloc (.cells (tok c d) 24)) b1 b2 b3 w1.heap.size (tok a b) (tok c d) (tok f g) (tok c d) from
          ⟨(F0.out.h1.below hb).alloc _, (F0.out.h2.below hb).alloc _, (F0.out.h3.below hb).alloc _, Blk.new _ _ _, (F0.out.ch.call hb).alloc _⟩)
        clear q1 q2 q3 q4 F0 hb em1 em2
        obtain ⟨q1, q2, q3, q4⟩ := F1.out.cells
        go_wp2_with (first | (go_at_call 10; refine (less_any _ _ _ _ _).mono ?_; rintro e w' ⟨rfl, hb⟩; have n0 := Lib.hid (F1.out.below hb); clear q1 q2 q3 q4 F1 hb; have F1 := n0; clear n0; obtain ⟨q1, q2, q3, q4⟩ := F1.out.cells) | (go_at_call 11; refine (alive_any _).mono ?_; rintro e w' ⟨rfl, hb⟩; have n0 := Lib.hid (F1.out.below hb); clear q1 q2 q3 q4 F1 hb; have F1 := n0; clear n0; obtain ⟨q1, q2, q3, q4⟩ := F1.out.cells))
        go_ret
        exact ⟨by simp, F1.out.ch.below⟩
    | false =>
      obtain ⟨em1, em2⟩ := max_f hxy
      cases hyx : lessB c d a b with
      | true =>
        have F0 := Lib.hid hF
        obtain ⟨q1, q2, q3, q4⟩ := hF.cells
        clear hF
        go_wp2_with fail
        refine (max_any a b c d _).mono ?_
        rw [em1, em2]
        rintro e w1 ⟨rfl, hb⟩
        have F1 := Lib.hid (show Four w (w1.alloc (.cells (tok a b) 24)) b1 b2 b3 w1.heap.size (tok a b) (tok c d) (tok f g) (tok a b) from
          ⟨(F0.out.h1.below hb).alloc _, (F0.out.h2.below hb).alloc _, (F0.out.h3.below hb).alloc _, Blk.new _ _ _, (F0.out.ch.call hb).alloc _⟩)
        clear q1 q2 q3 q4 F0 hb em1 em2
        obtain ⟨q1, q2, q3, q4⟩ := F1.out.cells
        go_wp2_with (first | (go_at_call 10; refine (less_any _ _ _ _ _).mono ?_; rintro e w' ⟨rfl, hb⟩; have n0 := Lib.hid (F1.out.below hb); clear q1 q2 q3 q4 F1 hb; have F1 := n0; clear n0; obtain ⟨q1, q2, q3, q4⟩ := F1.out.cells) | (go_at_call 11; refine (alive_any _).mono ?_; rintro e w' ⟨rfl, hb⟩; have n0 := Lib.hid (F1.out.below hb); clear q1 q2 q3 q4 F1 hb; have F1 := n0; clear n0; obtain ⟨q1, q2, q3, q4⟩ := F1.out.cells))
        go_ret
        exact ⟨by simp, F1.out.ch.below⟩
      | false =>
        obtain ⟨rfl, rfl⟩ := less_tri hxy hyx
        clear hyx hxx hyy
        have F0 := Lib.hid hF
        obtain ⟨q1, q2, q3, q4⟩ := hF.cells
        clear hF
        go_wp2_with fail
        refine (max_any c d c d _).mono ?_
        rw [em1, em2]
        rintro e w1 ⟨rfl, hb⟩
        have F1 := Lib.hid (show Four w (w1.alloc (.cells (tok c d) 24)) b1 b2 b3 w1.heap.size (tok c d) (tok c d) (tok f g) (tok c d) from
          ⟨(F0.out.h1.below hb).alloc _, (F0.out.h2.below hb).alloc _, (F0.out.h3.below hb).alloc _, Blk.new _ _ _, (F0.out.ch.call hb).alloc _⟩)
        clear q1 q2 q3 q4 F0 hb em1 em2
        obtain ⟨q1, q2, q3, q4⟩ := F1.out.cells
        go_wp2_with (first | (go_at_call 10; refine (less_any _ _ _ _ _).mono ?_; rintro e w' ⟨rfl, hb⟩; have n0 := Lib.hid (F1.out.below hb); clear q1 q2 q3 q4 F1 hb; have F1 := n0; clear n0; obtain ⟨q1, q2, q3, q4⟩ := F1.out.cells) | (go_at_call 11; refine (alive_any _).mono ?_; rintro e w' ⟨rfl, hb⟩; have n0 := Lib.hid (F1.out.below hb); clear q1 q2 q3 q4 F1 hb; have F1 := n0; clear n0; obtain ⟨q1, q2, q3, q4⟩ := F1.out.cells))
        go_ret
        exact ⟨by simp, F1.out.ch.below⟩
theorem order_row (a b c : Int × Int) (w : World) (_ : (Lit.int .i64 a.1).wf = true ∧ (Lit.int .i64 a.2).wf = true) (_ : (Lit.int .i64 b.1).wf = true ∧ (Lit.int .i64 b.2).wf = true) (_ : (Lit.int .i64 c.1).wf = true ∧ (Lit.int .i64 c.2).wf = true) :
    Calls Try.prog 3 #[.agg #[.int .i64 a.1, .int .i64 a.2], .agg #[.int .i64 b.1, .int .i64 b.2], .agg #[.int .i64 c.1, .int .i64 c.2]] w fun e w' => e = .returned (.bool true) ∧ Below w.heap.size w w' := order_walk _ _ _ _ _ _ w
end Go.Proofs.Ytjilfmphdncapaa
