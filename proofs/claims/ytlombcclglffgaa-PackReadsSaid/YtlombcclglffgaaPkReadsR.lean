/- PackReads: all arguments. -/
import Derived.Test.YtlombcclglffgaaPkReads
set_option linter.unusedVariables false
set_option linter.unusedSimpArgs false
namespace Go.Proofs.Ytlombcclglffgaa
open Go.RowKit

set_option maxRecDepth 100000 in
set_option maxHeartbeats 4000000 in
theorem reads_long (a a2 : Option Addr) (cap cap2 : Nat) (bs : List Nat) (n : Nat) (w : World) (hl : 20000 < bs.length ∨ (bs.length ≤ 20000 ∧ 200 < n)) (ro : RowAt w a 1 b1 bs) (hm : bs.length ≤ 140737488351232) :
    Calls Try.prog 7 #[.slice a bs.length cap, .slice a2 n cap2] w fun e w' => e = .returned (.bool true) ∧ Below w.heap.size w w' := by
  have HN := Lib.hid (new_any a cap bs w ro (by omega))
  clear ro
  rcases hl with hl | ⟨hl, hl2⟩
  · have h1 : decide ((20000 : Int) < (bs.length : Int)) = true := by simp; omega
    go_enter Try.func7, Try.ntmps7
    go_wp2_with fail
    refine HN.out.mono ?_
    rintro e w3 ⟨r, g, rfl, _, _, _, hb3⟩
    go_wp2_with fail
    refine (alive_any _).mono ?_
    rintro e w4 ⟨rfl, hb4⟩
    go_wp2_with fail
    go_ret
    exact ⟨rfl, ((Ch.of_below (fun _ => False) hb3).call hb4).below⟩
  · have h1 : decide ((20000 : Int) < (bs.length : Int)) = false := by simp; omega
    have h2 : decide ((200 : Int) < (n : Int)) = true := by simp; omega
    go_enter Try.func7, Try.ntmps7
    go_wp2_with fail
    refine HN.out.mono ?_
    rintro e w3 ⟨r, g, rfl, _, _, _, hb3⟩
    go_wp2_with fail
    refine (alive_any _).mono ?_
    rintro e w4 ⟨rfl, hb4⟩
    go_wp2_with fail
    go_ret
    exact ⟨rfl, ((Ch.of_below (fun _ => False) hb3).call hb4).below⟩

/-- PackReads answers true. -/
theorem reads_row (a : Option Addr) (cap : Nat) (bs : List Nat) (a2 : Option Addr) (cap2 : Nat) (ps : List PartD) (w : World) (_ : bs.length ≤ cap) (ro : RowAt w a 1 b1 bs) (wb : ∀ b ∈ bs, b < 256) (y : bs.length * 1 ≤ 140737488351232) (_ : ps.length ≤ cap2) (ro2 : RowAt w a2 5 PartD.out ps) (_ : ∀ p ∈ ps, p.s.size ≤ maxLen) (_ : ps.length * 48 ≤ 140737488351232) :
    Calls Try.prog 7 #[.slice a bs.length cap, .slice a2 ps.length cap2] w fun e w' => e = .returned (.bool true) ∧ Below w.heap.size w w' := by
  by_cases h1 : bs.length ≤ 20000
  · by_cases h2 : ps.length ≤ 200
    · exact reads_main a a2 cap cap2 bs ps w h1 h2 ro wb ro2
    · exact reads_long a a2 cap cap2 bs ps.length w (.inr ⟨h1, by omega⟩) ro (by omega)
  · exact reads_long a a2 cap cap2 bs ps.length w (.inl (by omega)) ro (by omega)
end Go.Proofs.Ytlombcclglffgaa
