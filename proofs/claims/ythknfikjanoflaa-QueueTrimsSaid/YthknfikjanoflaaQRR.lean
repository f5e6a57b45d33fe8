/- QueueTrims: all arguments. -/
import Derived.Test.YthknfikjanoflaaQRM
set_option linter.unusedVariables false
set_option linter.unusedSimpArgs false
namespace Go.Proofs.Ythknfikjanoflaa
open Go.RowKit

set_option maxRecDepth 100000 in
set_option maxHeartbeats 4000000 in
theorem trims_bad (a : Option Addr) (cap : Nat) (log : List ByteArray) (m : Int) (w : World) (ro : RowAt w a 1 oS log) (hl : log.length ≤ 140737488351232) (hm : m < 0 ∨ (0 ≤ m ∧ 20 < m)) :
    Calls Try.prog 5 #[.slice a log.length cap, .int .i64 m] w fun e w' => e = .returned (.bool true) ∧ Below w.heap.size w w' := by
  have HN := Lib.hid (qnew_any w)
  have HN2 := Lib.hid (fun w' => qnew_any w')
  have HF := Lib.hid (fun w' (hb : Below w.heap.size w w') => fewq_any a cap log w' (ro.below hb) hl)
  rcases hm with hm | ⟨hm0, hm⟩
  · have t1 : decide (m < 0) = true := by simpa using hm
    clear ro hm
    go_enter Try.func5, Try.ntmps5
    go_wp2_with fail
    refine HN.out.mono ?_
    intro e w1 hpost
    obtain ⟨q, b1, b2, rfl, Q1⟩ := qnew_in (Ch.refl _ w) hpost
    have K1 := Lib.hid Q1
    clear HN hpost Q1
    go_wp2_with fail
    refine (HN2.out w1).mono ?_
    intro e w2 hpost
    obtain ⟨p, c1, c2, rfl, Q2⟩ := qnew_two K1.out hpost
    have K2 := Lib.hid Q2
    clear HN2 hpost Q2 K1
    go_wp2_with fail
    refine (HF.out w2 K2.out.q.ch.below).mono ?_
    rintro e w3 ⟨⟨b, rfl, hfew⟩, hb3⟩
    have K3 := Lib.hid (K2.out.below hb3)
    clear HF hb3 K2
    cases b <;>
    · go_wp2_with fail
      refine (alive_any _).mono ?_
      rintro e w7 ⟨rfl, hb7⟩
      go_wp2_with fail
      go_ret
      exact ⟨rfl, (K3.out.q.ch.call hb7).below⟩
  · have t1 : decide (m < 0) = false := by simpa using hm0
    have t2 : decide (20 < m) = true := by simpa using hm
    clear ro hm hm0
    go_enter Try.func5, Try.ntmps5
    go_wp2_with fail
    refine HN.out.mono ?_
    intro e w1 hpost
    obtain ⟨q, b1, b2, rfl, Q1⟩ := qnew_in (Ch.refl _ w) hpost
    have K1 := Lib.hid Q1
    clear HN hpost Q1
    go_wp2_with fail
    refine (HN2.out w1).mono ?_
    intro e w2 hpost
    obtain ⟨p, c1, c2, rfl, Q2⟩ := qnew_two K1.out hpost
    have K2 := Lib.hid Q2
    clear HN2 hpost Q2 K1
    go_wp2_with fail
    refine (HF.out w2 K2.out.q.ch.below).mono ?_
    rintro e w3 ⟨⟨b, rfl, hfew⟩, hb3⟩
    have K3 := Lib.hid (K2.out.below hb3)
    clear HF hb3 K2
    cases b <;>
    · go_wp2_with fail
      refine (alive_any _).mono ?_
      rintro e w7 ⟨rfl, hb7⟩
      go_wp2_with fail
      go_ret
      exact ⟨rfl, (K3.out.q.ch.call hb7).below⟩

/-- QueueTrims answers true. -/
theorem trims_row (a : Option Addr) (cap : Nat) (log : List ByteArray) (m : Int) (w : World) (hlc : log.length ≤ cap) (ro : RowAt w a 1 oS log) (hd : ∀ d ∈ log, d.size ≤ 140737488351232) (hl : log.length * 16 ≤ 140737488351232) (_ : (Lit.int .i64 m).wf = true) :
    Calls Try.prog 5 #[.slice a log.length cap, .int .i64 m] w fun e w' => e = .returned (.bool true) ∧ Below w.heap.size w w' := by
  by_cases h : 0 ≤ m ∧ m ≤ 20
  · obtain ⟨k, rfl⟩ : ∃ k : Nat, m = (k : Int) := ⟨m.toNat, by omega⟩
    exact trims_main a cap log k w ro hd (by omega) (by omega)
  · exact trims_bad a cap log m w ro (by omega) (by omega)
end Go.Proofs.Ythknfikjanoflaa
