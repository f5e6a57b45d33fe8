/- The contracts of package session's methods: what each call answers, what it leaves of its session, and that no other block of before has changed. -/
import Derived.Test.YtpdibjaeopcimaaSes
set_option linter.unusedVariables false
set_option linter.unusedSimpArgs false
namespace Go.Proofs.Ytpdibjaeopcimaa.Sn
open Go.RowKit

/-- A session at block b. -/
def Ses (w : World) (b : Nat) (c m t n : Int) : Prop := Blk w b #[.int .i64 c, .int .i64 m, .int .i64 t, .int .i64 n] 99

theorem new_ok (c : Int) (w : World) (h0 : 0 ≤ c) (h1 : c ≤ 1099511627776) :
    Calls Try.prog 30 #[.int .i64 c] w fun e w' => e = .returned (.tuple #[.pointer (some ⟨w.heap.size, 0, none⟩), .int .i64 0]) ∧ Ses w' w.heap.size c 0 0 0 ∧ Below w.heap.size w w' := by
  have h : (decide (0 ≤ c) && decide (c ≤ 1099511627776)) = true := by simp [h0, h1]
  go_enter Try.func30, Try.ntmps30
  go_wp2_with fail
  refine (within_any _ _ _).mono ?_
  rintro e w1 ⟨rfl, rfl⟩
  rw [h]
  go_wp2
  go_ret2
  exact ⟨rfl, Blk.new _ _ _, below1 _ _⟩

theorem new_bad (c : Int) (w : World) (h : (decide (0 ≤ c) && decide (c ≤ 1099511627776)) = false) :
    Calls Try.prog 30 #[.int .i64 c] w fun e w' => e = .returned (.tuple #[.pointer none, .int .i64 1]) ∧ Below w.heap.size w w' := by
  have H := Lib.hid h; clear h
  go_enter Try.func30, Try.ntmps30
  go_wp2_with fail
  refine (within_any _ _ _).mono ?_
  rintro e w1 ⟨rfl, rfl⟩
  rw [H.out]
  go_wp2
  go_ret2
  exact ⟨rfl, Below.refl _ _⟩

/-- What Read answers, and what the session saw then. -/
def readE (t n a1 a2 : Int) : Int := if rightB a1 a2 then (if lessB a1 a2 t n then 180 else 0) else 1
def readT (t n a1 a2 : Int) : Int := if readE t n a1 a2 = 0 then maxT t n a1 a2 else t
def readN (t n a1 a2 : Int) : Int := if readE t n a1 a2 = 0 then maxN t n a1 a2 else n
def wroteE (a1 a2 : Int) : Int := if rightB a1 a2 then 0 else 1
def wroteT (t n a1 a2 : Int) : Int := if rightB a1 a2 then maxT t n a1 a2 else t
def wroteN (t n a1 a2 : Int) : Int := if rightB a1 a2 then maxN t n a1 a2 else n

theorem see_bad (b : Nat) (t n a1 a2 : Int) (k : Nat) (caps : Array Value) (w : World) (hr : rightB a1 a2 = false) :
    Calls Try.prog 59 #[.pointer (some ⟨b, 0, none⟩), .agg #[.int .i64 a1, .int .i64 a2], .func (.func k) #[] caps] w fun e w' => e = .returned (.int .i64 1) ∧ Below w.heap.size w w' := by
  have H := Lib.hid hr; clear hr
  go_enter Try.func59, Try.ntmps59
  go_wp2_with fail
  refine (right_any a1 a2 _).mono ?_
  rintro e w1 ⟨rfl, hb1⟩
  rw [H.out]
  go_wp2
  go_ret
  exact ⟨rfl, Ch.below (((Ch.refl _ w).alloc _).call hb1)⟩

theorem see_no (b : Nat) (c m t n a1 a2 r : Int) (k : Nat) (caps : Array Value) (w : World) (hs : Ses w b c m t n) (hr : rightB a1 a2 = true) (h0 : ¬ r = 0)
    (hk : ∀ w, (callFunc k caps).run Try.prog w = .ok (.enter k caps) w)
    (hm : ∀ w', Below w.heap.size w w' → Calls Try.prog k caps w' fun e w'' => e = .returned (.int .i64 r) ∧ Below w'.heap.size w' w'') :
    Calls Try.prog 59 #[.pointer (some ⟨b, 0, none⟩), .agg #[.int .i64 a1, .int .i64 a2], .func (.func k) #[] caps] w fun e w' => e = .returned (.int .i64 r) ∧ Below w.heap.size w w' := by
  have H := Lib.hid hr; clear hr
  have HM := Lib.hid hm; clear hm
  have h0b : (r == 0) = false := by simpa using h0
  clear h0
  go_enter Try.func59, Try.ntmps59
  go_wp2_with fail
  refine (right_any a1 a2 _).mono ?_
  rintro e w1 ⟨rfl, hb1⟩
  rw [H.out]
  have c1 : Ch (fun _ => False) w w1 := ((Ch.refl _ w).alloc _).call hb1
  go_wp2_with fail
  refine (HM.out _ c1.below).mono ?_
  rintro e w2 ⟨rfl, hb2⟩
  go_wp2
  go_ret
  exact ⟨rfl, Ch.below (c1.call hb2)⟩

set_option maxRecDepth 100000 in
theorem see_yes (b : Nat) (c m t n a1 a2 : Int) (k : Nat) (caps : Array Value) (w : World) (hs : Ses w b c m t n) (hr : rightB a1 a2 = true)
    (hk : ∀ w, (callFunc k caps).run Try.prog w = .ok (.enter k caps) w)
    (hm : ∀ w', Below w.heap.size w w' → Calls Try.prog k caps w' fun e w'' => e = .returned (.int .i64 0) ∧ Below w'.heap.size w' w'') :
    Calls Try.prog 59 #[.pointer (some ⟨b, 0, none⟩), .agg #[.int .i64 a1, .int .i64 a2], .func (.func k) #[] caps] w fun e w' => e = .returned (.int .i64 0) ∧ Ses w' b c m (maxT t n a1 a2) (maxN t n a1 a2) ∧ Ch (· = b) w w' := by
  have H := Lib.hid hr; clear hr
  have HM := Lib.hid hm; clear hm
  have hlt := Blk.lt hs
  have HS := Lib.hid hs; clear hs
  go_enter Try.func59, Try.ntmps59
  go_wp2_with fail
  refine (right_any a1 a2 _).mono ?_
  rintro e w1 ⟨rfl, hb1⟩
  rw [H.out]
  have c1 : Ch (fun _ => False) w w1 := ((Ch.refl _ w).alloc _).call hb1
  have B1 := Lib.hid ((Blk.new w #[.int .i64 a1, .int .i64 a2] 37).below hb1)
  clear hb1
  go_wp2_with fail
  refine (HM.out _ c1.below).mono ?_
  rintro e w2 ⟨rfl, hb2⟩
  have S2 := Blk.ch HS.out (c1.call hb2) id
  have B2 := B1.out.below hb2
  have c2 : Ch (· = b) w w2 := (c1.call hb2).mono (fun _ h => h.elim)
  clear HS B1 c1 hb2
  obtain ⟨q1, q2⟩ := S2.cells
  obtain ⟨q3, q4⟩ := B2.cells
  have l1 := S2.lt
  have l2 := B2.lt
  have KS := Lib.hid S2
  have KB := Lib.hid B2
  have e1 : w2.cell? ⟨b, 2, none⟩ = some (.int .i64 t) := q1 2
  have e2 : w2.cell? ⟨b, 3, none⟩ = some (.int .i64 n) := q1 3
  have e3 : w2.cell? ⟨w.heap.size, 0, none⟩ = some (.int .i64 a1) := q3 0
  have e4 : w2.cell? ⟨w.heap.size, 1, none⟩ = some (.int .i64 a2) := q3 1
  have f1 : w2.frozen? ⟨b, 2, none⟩ = false := q2 2
  have f2 : w2.frozen? ⟨b, 3, none⟩ = false := q2 3
  clear S2 B2 q1 q2 q3 q4
  go_wp2_with fail
  go_region_with (go_at_call 65; refine (max_any t n a1 a2 _).mono ?_; rintro e w3 ⟨rfl, hb3⟩; have g1 := (hb3.cell l1).trans e1; have g2 := (hb3.cell l1).trans e2; have k1 := (hb3.frozen l1).trans f1; have k2 := (hb3.frozen l1).trans f2)
  all_goals
    have H3 : Ses w3 b c m t n := Blk.below (Blk.drew KS.out) hb3
    have c3 := c2.drew.call hb3
    have K3 := Lib.hid H3
    clear H3 hb3
    go_wp2
    go_ret
    exact ⟨rfl, Blk.set (Blk.set K3.out 2 _) 3 _, by (repeat (first | with_reducible assumption | with_reducible exact Ch.refl _ _ | with_reducible refine Ch.drew ?_ | with_reducible refine Ch.alloc ?_ _ | (with_reducible refine Ch.set' ?_ ?_; focus (first | (right; rfl; done) | (left; simp; done) | (left; simp; omega) | (left; omega) | (right; simp; done) | (right; simp; omega)))))⟩

set_option maxRecDepth 100000 in
theorem read1_any (b bs ba : Nat) (c m t n a1 a2 : Int) (w : World) (hs : Ses w b c m t n) (h1 : Blk w bs #[.pointer (some ⟨b, 0, none⟩)] 29) (h2 : Blk w ba #[.int .i64 a1, .int .i64 a2] 37) :
    Calls Try.prog 60 #[.pointer (some ⟨ba, 0, none⟩), .pointer (some ⟨bs, 0, none⟩)] w fun e w' => e = .returned (.int .i64 (if lessB a1 a2 t n then 180 else 0)) ∧ Below w.heap.size w w' := by
  obtain ⟨q1, q2⟩ := hs.cells
  obtain ⟨q3, q4⟩ := h1.cells
  obtain ⟨q5, q6⟩ := h2.cells
  cases h : lessB a1 a2 t n with
  | true =>
    have H := Lib.hid h; clear h
    clear hs h1 h2
    go_enter Try.func60, Try.ntmps60
    go_wp2_with fail
    go_region_with (go_at_call 34; refine (less_any a1 a2 t n _).mono ?_; rintro e w3 ⟨rfl, hb3⟩)
    all_goals
      have C := (Ch.refl (fun _ => False) w).drew.call hb3
      clear hb3
      rw [H.out]
      go_wp2
      go_ret
      exact ⟨by simp, C.below⟩
  | false =>
    have H := Lib.hid h; clear h
    clear hs h1 h2
    go_enter Try.func60, Try.ntmps60
    go_wp2_with fail
    go_region_with (go_at_call 34; refine (less_any a1 a2 t n _).mono ?_; rintro e w3 ⟨rfl, hb3⟩)
    all_goals
      have C := (Ch.refl (fun _ => False) w).drew.call hb3
      clear hb3
      rw [H.out]
      go_wp2
      go_ret
      exact ⟨by simp, C.below⟩
end Go.Proofs.Ytpdibjaeopcimaa.Sn
