/- FlowRuns: every other way; all arguments. -/
import Derived.Test.YtoknpcohhnlncaaRunsW
import Derived.Test.YtoknpcohhnlncaaWeigh
set_option linter.unusedVariables false
set_option linter.unusedSimpArgs false
namespace Go.Proofs.Ytoknpcohhnlncaa
open Go.RowKit

theorem flatRun : FlatW Try.prog 41 RunD.out (fun r => r.name.size ≤ 140737488351232) :=
  FlatW.iso (FlatW.struct Try.underlying41 (FlatFsW.cons (FlatW.str Try.underlying9) rfl (FlatFsW.last (Flat.weigh (Flat.int Try.underlying3)) (by kernel_rfl) (by kernel_rfl))))
    (fun y => (⟨y.1, y.2⟩ : RunD)) (fun _ h => ⟨rfl, h.1⟩)

set_option maxRecDepth 100000 in
set_option maxHeartbeats 4000000 in
theorem runs_long (n : Int) (a : Option Addr) (cap len : Nat) (w : World) (hN : 100 < len) :
    Calls Try.prog 5 #[.int .i64 n, .slice a len cap] w fun e w' => e = .returned (.bool true) ∧ Below w.heap.size w w' := by
  have t100 : decide ((100 : Int) < (len : Int)) = true := by simp; omega
  have t100' : decide (100 < len) = true := by simp; omega
  clear hN
  go_enter Try.func5, Try.ntmps5
  go_wp2_with fail
  refine (alive_any _).mono ?_
  rintro e w5 ⟨rfl, hb5⟩
  go_wp2_with fail
  go_ret
  exact ⟨rfl, Ch.below (by exact Ch.of_below _ hb5)⟩

/-- The outer loop where no work can be: nothing yet. -/
def BadIn (w0 : World) (v5 v32 : Value) (wi : World) : Prop := v5 = .slice none 0 0 ∧ v32 = .int .i64 0 ∧ wi = w0
set_option maxRecDepth 100000 in
set_option maxHeartbeats 4000000 in
theorem runs_bad (n : Int) (a : Option Addr) (cap : Nat) (rs : List RunD) (w : World) (hn : n < 1 ∨ 64 < n) (hN : rs.length ≤ 100) (ro : RowAt w a 2 RunD.out rs) :
    Calls Try.prog 5 #[.int .i64 n, .slice a rs.length cap] w fun e w' => e = .returned (.bool true) ∧ Below w.heap.size w w' := by
  have t100 : decide ((100 : Int) < (rs.length : Int)) = false := by simp; omega
  have t100' : decide (100 < rs.length) = false := by simp; omega
  have HB := Lib.hid (fun w1 => fold_bad n none 0 0 w1 hn)
  clear hn
  by_cases hpos : rs.length = 0
  · have hnil : rs = [] := List.length_eq_zero_iff.1 hpos
    subst hnil
    clear t100 t100' hpos
    go_enter Try.func5, Try.ntmps5
    go_wp2_with fail
    go_loopw [5, 32] (fun v5 v32 wi => BadIn w v5 v32 wi) (fun _ _ _ => 0)
    case atStart => exact ⟨rfl, rfl, rfl⟩
    case round =>
      obtain ⟨rfl, rfl, rfl⟩ := hrel
      go_wp2_with fail
      refine (HB.out _).mono ?_
      rintro e w2 ⟨rfl, hb2⟩
      go_wp2_with fail
      refine (alive_any _).mono ?_
      rintro e w5 ⟨rfl, hb5⟩
      go_wp2_with fail
      go_ret
      exact ⟨rfl, ((Ch.of_below (fun _ => False) hb2).call hb5).below⟩
  · obtain ⟨r, hp⟩ : ∃ r, rs[0]? = some r := ⟨_, List.getElem?_eq_getElem (by omega)⟩
    obtain ⟨b0, off, rfl, hb0, hcells⟩ := ro 0 r hp
    have hlt : 0 < rs.length := by omega
    have hne : ¬ rs = [] := by rintro rfl; simp at hlt
    have q0 : w.cell? ⟨b0, off, none⟩ = some (.string r.name) := by simpa using hcells 0 _ rfl
    have q1 : w.cell? ⟨b0, off + 1, none⟩ = some (.int .i64 r.late) := by simpa using hcells 1 _ rfl
    clear hcells ro hp hpos
    go_enter Try.func5, Try.ntmps5
    go_wp2_with fail
    go_loopw [5, 32] (fun v5 v32 wi => BadIn w v5 v32 wi) (fun _ _ _ => 0)
    case atStart => exact ⟨rfl, rfl, rfl⟩
    case round =>
      obtain ⟨rfl, rfl, rfl⟩ := hrel
      go_wp2_with fail
      refine (HB.out _).mono ?_
      rintro e w2 ⟨rfl, hb2⟩
      go_wp2_with fail
      refine (alive_any _).mono ?_
      rintro e w5 ⟨rfl, hb5⟩
      go_wp2_with fail
      go_ret
      exact ⟨rfl, (((below1 _ _ |> Ch.of_below (fun _ => False)).call hb2).call hb5).below⟩

/-- FlowRuns answers true. -/
theorem runs_row (n : Int) (a : Option Addr) (cap : Nat) (rs : List RunD) (w : World) (_ : (Lit.int .i64 n).wf = true) (hlc : rs.length ≤ cap) (ro : RowAt w a 2 RunD.out rs) (hd : ∀ r ∈ rs, r.name.size ≤ 140737488351232) (hl : rs.length * 24 ≤ 140737488351232) :
    Calls Try.prog 5 #[.int .i64 n, .slice a rs.length cap] w fun e w' => e = .returned (.bool true) ∧ Below w.heap.size w w' := by
  by_cases hN : rs.length ≤ 100
  · by_cases hn : 1 ≤ n ∧ n ≤ 64
    · exact runs_main n a cap rs w hn.1 hn.2 hN ro hd
    · exact runs_bad n a cap rs w (by omega) hN ro
  · exact runs_long n a cap rs.length w (by omega)
end Go.Proofs.Ytoknpcohhnlncaa
