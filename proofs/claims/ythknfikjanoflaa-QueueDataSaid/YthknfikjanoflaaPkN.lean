/- The reader's Num: its closure, and one round after the other. -/
import Derived.Test.YthknfikjanoflaaPkR
import Derived.LoopN
set_option linter.unusedVariables false
set_option linter.unusedSimpArgs false
namespace Go.Proofs.Ythknfikjanoflaa
open Go.RowKit

set_option maxRecDepth 100000 in
/-- 'right' of one number. -/
theorem right_one (b : Nat) (n : Int) (t : Nat) (w : World) (h : Blk w b #[.int .i64 n] t) :
    Calls Try.prog 42 #[.slice (some ⟨b, 0, none⟩) 1 1] w fun x w' => x = .returned (.bool (decide (0 ≤ n) && decide (n ≤ 4611686018427387904))) ∧ Below w.heap.size w w' := by
  obtain ⟨q1, q2⟩ := h.cells
  clear h
  by_cases h0 : n < 0
  · have h1 : decide (n < 0) = true := by simpa using h0
    go_enter Try.func42, Try.ntmps42
    go_wp2
    refine wp_loop_rounds 2 ?_
    rw [rounds_succ]
    go_wp2
    go_ret
    exact ⟨by simp; omega, Ch.below (by (repeat (first | with_reducible assumption | with_reducible exact Ch.refl _ _ | with_reducible refine Ch.drew ?_ | with_reducible refine Ch.alloc ?_ _ | (with_reducible refine Ch.set' ?_ ?_; focus (first | (right; rfl; done) | (left; simp; done) | (left; simp; omega) | (left; omega) | (right; simp; done) | (right; simp; omega))))))⟩
  · have h1 : decide (n < 0) = false := by simpa using h0
    by_cases h2 : 4611686018427387904 < n
    · have h3 : decide (4611686018427387904 < n) = true := by simpa using h2
      go_enter Try.func42, Try.ntmps42
      go_wp2
      refine wp_loop_rounds 2 ?_
      rw [rounds_succ]
      go_wp2
      go_ret
      exact ⟨by simp; omega, Ch.below (by (repeat (first | with_reducible assumption | with_reducible exact Ch.refl _ _ | with_reducible refine Ch.drew ?_ | with_reducible refine Ch.alloc ?_ _ | (with_reducible refine Ch.set' ?_ ?_; focus (first | (right; rfl; done) | (left; simp; done) | (left; simp; omega) | (left; omega) | (right; simp; done) | (right; simp; omega))))))⟩
    · have h3 : decide (4611686018427387904 < n) = false := by simpa using h2
      go_enter Try.func42, Try.ntmps42
      go_wp2
      refine wp_loop_rounds 2 ?_
      rw [rounds_succ]
      go_wp2
      rw [rounds_succ]
      go_wp2
      go_ret
      exact ⟨by simp; omega, Ch.below (by (repeat (first | with_reducible assumption | with_reducible exact Ch.refl _ _ | with_reducible refine Ch.drew ?_ | with_reducible refine Ch.alloc ?_ _ | (with_reducible refine Ch.set' ?_ ?_; focus (first | (right; rfl; done) | (left; simp; done) | (left; simp; omega) | (left; omega) | (right; simp; done) | (right; simp; omega))))))⟩

/-- What the closure 'next' hands back. -/
def NextPost (r g : Nat) (bs : List Nat) (k : Nat) (w : World) (x : Ending) (w' : World) : Prop :=
  (∃ b, bs[k]? = some b ∧ x = .returned (.tuple #[by8 b, .bool true])) ∧ Rd w' r g bs (k + 1) 0 ∧ Ch (· = r) w w'

set_option maxRecDepth 100000 in
theorem next_ok (p r g : Nat) (bs : List Nat) (k : Nat) (w : World) (h : Rd w r g bs k 0) (hp : Blk w p #[.pointer (some ⟨r, 0, none⟩)] 56) (hk : k < bs.length) (hlen : bs.length ≤ maxLen) :
    Calls Try.prog 43 #[.pointer (some ⟨p, 0, none⟩)] w (NextPost r g bs k w) := by
  have HT := Lib.hid (take_ok r g bs k 1 w h (by omega) hlen)
  obtain ⟨q1, q2⟩ := hp.cells
  have HK := Lib.hid hk
  clear h hp hk hlen
  go_enter Try.func43, Try.ntmps43
  go_wp2_with fail
  refine HT.out.mono ?_
  rintro x w1 ⟨⟨o, c, rfl, ho⟩, R1, c1⟩
  have ho' := ho (by omega)
  subst ho'
  obtain ⟨b, hb⟩ : ∃ b, bs[o]? = some b := ⟨_, List.getElem?_eq_getElem HK.out⟩
  have hcell : w1.cell? ⟨g, o, none⟩ = some (by8 b) := by rw [R1.arr.cell]; simp [hb]
  have HR := Lib.hid R1
  have HB := Lib.hid hb
  clear ho R1 hb HT
  go_wp2
  refine bodyPost_ret (v := .tuple #[by8 b, .bool true]) (by simp [results, Try.results43, go_sem]) rfl ⟨⟨b, HB.out, rfl⟩, HR.out, c1⟩

def NextBad (r g : Nat) (bs : List Nat) (k : Nat) (e : Int) (w : World) (x : Ending) (w' : World) : Prop :=
  x = .returned (.tuple #[.int .u8 0, .bool false]) ∧ Rd w' r g bs k e ∧ Ch (· = r) w w'

set_option maxRecDepth 100000 in
theorem next_bad (p r g : Nat) (bs : List Nat) (k : Nat) (e : Int) (w : World) (h : Rd w r g bs k e) (hp : Blk w p #[.pointer (some ⟨r, 0, none⟩)] 56) (hk : e ≠ 0 ∨ k = bs.length) :
    Calls Try.prog 43 #[.pointer (some ⟨p, 0, none⟩)] w (NextBad r g bs k (if e = 0 then 20 else e) w) := by
  have ht := take_bad r g bs k 1 e w h (by omega)
  obtain ⟨e2, he2⟩ : ∃ e2, e2 = (if e = 0 then 20 else e) := ⟨_, rfl⟩
  rw [← he2] at ht ⊢
  have HT := Lib.hid ht
  obtain ⟨q1, q2⟩ := hp.cells
  clear h hp hk ht he2
  go_enter Try.func43, Try.ntmps43
  go_wp2_with fail
  refine HT.out.mono ?_
  rintro x w1 ⟨rfl, R1, c1⟩
  have HR := Lib.hid R1
  clear R1
  go_wp2
  exact bodyPost_ret (v := .tuple #[.int .u8 0, .bool false]) (by simp [results, Try.results43, go_sem]) rfl ⟨rfl, HR.out, c1⟩
end Go.Proofs.Ythknfikjanoflaa
