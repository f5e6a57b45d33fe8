/- index: places; record.Less; sort.Search over any predicate. -/
import Derived.Test.YtpdibjaeopcimaaProg
import Derived.Test.YtpdibjaeopcimaaChecked
import Derived.Test.YtpdibjaeopcimaaBase
set_option linter.unusedVariables false
set_option linter.unusedSimpArgs false
namespace Go.Proofs.Ytpdibjaeopcimaa
open Go.RowKit

abbrev Pl := Int × Int
def plV (s : Pl) : Value := .agg #[.int .i64 s.1, .int .i64 s.2]
def lessP (a b : Pl) : Bool := decide (a.1 < b.1) || (a.1 == b.1 && decide (a.2 < b.2))
set_option maxRecDepth 100000 in
theorem less_any (a b : Pl) (w : World) :
    Calls Try.prog 51 #[plV a, plV b] w fun e w' => e = .returned (.bool (lessP a b)) ∧ Below w.heap.size w w' := by
  obtain ⟨a, b1⟩ := a
  obtain ⟨c, d⟩ := b
  unfold plV lessP
  simp only
  by_cases h1 : decide (a < c) = true
  · rw [h1]
    go_enter Try.func51, Try.ntmps51
    go_wp2
    go_ret
    exact ⟨rfl, below2 _ _ _⟩
  · simp only [Bool.not_eq_true] at h1
    rw [h1]
    by_cases h2 : (a == c) = true
    · rw [h2]
      go_enter Try.func51, Try.ntmps51
      go_wp2
      go_ret
      exact ⟨by simp, below2 _ _ _⟩
    · simp only [Bool.not_eq_true] at h2
      rw [h2]
      go_enter Try.func51, Try.ntmps51
      go_wp2
      go_ret
      exact ⟨rfl, below2 _ _ _⟩

/-- What sort.Search found. -/
def Found (p : Nat → Bool) (n r : Nat) : Prop := r ≤ n ∧ (r < n → p r = true) ∧ (0 < r → p (r - 1) = false)
/-- Search's loop. -/
def SeIn (w : World) (p : Nat → Bool) (n : Nat) (v2 v3 : Value) (wi : World) : Prop :=
  ∃ i j : Nat, i ≤ j ∧ j ≤ n ∧ v2 = .int .i64 (i : Int) ∧ v3 = .int .i64 (j : Int) ∧ (j < n → p j = true) ∧ (0 < i → p (i - 1) = false) ∧ Below w.heap.size w wi
set_option maxRecDepth 100000 in
set_option maxHeartbeats 4000000 in
theorem search_any (g : Nat) (lb : Array Value) (p : Nat → Bool) (n : Nat) (w : World) (hn : n ≤ 4194304)
    (he : ∀ (v : Value) (W : World), (callFunc g (#[v] ++ lb)).run Try.prog W = .ok (.enter g (#[v] ++ lb)) W)
    (hp : ∀ W k, Below w.heap.size w W → k < n → Calls Try.prog g (#[.int .i64 (k : Nat)] ++ lb) W fun e w' => e = .returned (.bool (p k)) ∧ Below W.heap.size W w') :
    Calls Try.prog 61 #[.int .i64 (n : Nat), .func (.func g) #[] lb] w fun e w' => (∃ r : Nat, e = .returned (.int .i64 (r : Nat)) ∧ Found p n r) ∧ Below w.heap.size w w' := by
  have HP := Lib.hid hp
  clear hp
  go_enter Try.func61, Try.ntmps61
  go_wp2_with fail
  go_loopw [5, 6] (fun v5 v6 wi => SeIn w p n v5 v6 wi) (fun v5 v6 _ => (intOf v6 - intOf v5).toNat)
  case atStart => exact ⟨0, n, Nat.zero_le _, Nat.le_refl _, rfl, rfl, fun h => absurd h (Nat.lt_irrefl _), fun h => absurd h (Nat.lt_irrefl _), Below.refl _ _⟩
  case round =>
    obtain ⟨i, j, hij, hjn, rfl, rfl, h1, h2, hb⟩ := hrel
    have KB := Lib.hid hb
    have H1 := Lib.hid h1
    have H2 := Lib.hid h2
    clear h1 h2 hb
    by_cases hlt : i < j
    · have ht : decide ((i : Int) < (j : Int)) = true := by simpa using hlt
      have e1 : wrap64 ((i : Int) + (j : Int)) = ((i + j : Nat) : Int) := by rw [IntWalk.wrap64_in _ (by omega)]; simp
      obtain ⟨h, hh⟩ : ∃ h, h = (i + j) / 2 := ⟨_, rfl⟩
      have e2 : ((i : Int) + (j : Int)) / 2 = (h : Int) := by rw [hh]; omega
      have b1 : i ≤ h := by omega
      have b2 : h < j := by omega
      have e3 : wrap64 ((h : Int) + 1) = (h : Int) + 1 := IntWalk.wrap64_in _ (by omega)
      have HPK := HP.out wr h KB.out (by omega)
      obtain ⟨r, hr⟩ : ∃ r, p h = r := ⟨_, rfl⟩
      rw [hr] at HPK
      have HR := Lib.hid hr
      have HPK := Lib.hid HPK
      clear hh hr
      go_wp2_with fail
      refine HPK.out.mono ?_
      rintro e w1 ⟨rfl, hb1⟩
      have KB1 := Lib.hid (KB.out.trans (hb1.mono KB.out.size))
      clear hb1 KB HPK
      cases r with
      | true =>
        go_wp2_with fail
        go_roundw
        case rel => exact ⟨i, h, b1, by omega, rfl, rfl, fun _ => HR.out, H2.out, KB1.out⟩
        case measure => simp only [intOf]; omega
      | false =>
        go_wp2_with fail
        go_roundw
        case rel => exact ⟨h + 1, j, by omega, hjn, by simp, rfl, H1.out, fun _ => HR.out, KB1.out⟩
        case measure => simp only [intOf]; omega
    · have ht : decide ((i : Int) < (j : Int)) = false := by simpa using hlt
      have hEq : i = j := by omega
      subst hEq
      clear hlt
      go_wp2_with fail
      go_ret
      exact ⟨⟨i, rfl, hjn, H1.out, H2.out⟩, KB.out⟩
end Go.Proofs.Ytpdibjaeopcimaa
