/- The contracts of package session: Read, Fork, Join. -/
import Derived.Test.YtjilfmphdncapaaSesB
set_option linter.unusedVariables false
set_option linter.unusedSimpArgs false
namespace Go.Proofs.Ytjilfmphdncapaa
open Go.RowKit

theorem enter39 (a b : Value) (w : World) : (callFunc 39 #[a, b]).run Try.prog w = .ok (.enter 39 #[a, b]) w := by go_simp

set_option maxRecDepth 100000 in
theorem read_any (b : Nat) (c m t n a1 a2 : Int) (w : World) (hs : Ses w b c m t n) :
    Calls Try.prog 28 #[.pointer (some ⟨b, 0, none⟩), .agg #[.int .i64 a1, .int .i64 a2]] w fun e w' => e = .returned (.int .i64 (readE t n a1 a2)) ∧ Ses w' b c m (readT t n a1 a2) (readN t n a1 a2) ∧ Ch (· = b) w w' := by
  have HC1 := ((Ch.refl (fun _ => False) w).alloc (.cells #[.pointer (some ⟨b, 0, none⟩)] 30)).alloc (.cells #[.int .i64 a1, .int .i64 a2] 24)
  have B1 := (Blk.new w #[.pointer (some ⟨b, 0, none⟩)] 30).alloc (.cells #[.int .i64 a1, .int .i64 a2] 24)
  have B2 := Blk.new (w.alloc (.cells #[.pointer (some ⟨b, 0, none⟩)] 30)) #[.int .i64 a1, .int .i64 a2] 24
  have S1 : Ses _ b c m t n := Blk.ch hs HC1 id
  have HMAY : ∀ w', Below ((w.alloc (.cells #[.pointer (some ⟨b, 0, none⟩)] 30)).alloc (.cells #[.int .i64 a1, .int .i64 a2] 24)).heap.size ((w.alloc (.cells #[.pointer (some ⟨b, 0, none⟩)] 30)).alloc (.cells #[.int .i64 a1, .int .i64 a2] 24)) w' →
      Calls Try.prog 39 #[.pointer (some ⟨w.heap.size + 1, 0, none⟩), .pointer (some ⟨w.heap.size, 0, none⟩)] w' fun e w'' => e = .returned (.int .i64 (if lessB a1 a2 t n then 180 else 0)) ∧ Below w'.heap.size w' w'' :=
    fun w' hb => read1_any b _ _ c m t n a1 a2 w' (S1.below hb) (B1.below hb) (by simpa using B2.below hb)
  clear B1 B2
  cases h : rightB a1 a2 with
  | false =>
    have z1 : readE t n a1 a2 = 1 := by simp [readE, h]
    have z2 : readT t n a1 a2 = t := by simp [readT, z1]
    have z3 : readN t n a1 a2 = n := by simp [readN, z1]
    rw [z1, z2, z3]; clear z1 z2 z3
    have H := Lib.hid h; clear h
    have HS := Lib.hid S1; clear S1 hs HMAY
    go_enter Try.func28, Try.ntmps28
    go_wp2_with fail
    refine (see_bad b t n a1 a2 _ _ _ H.out).mono ?_
    rintro e w1 ⟨rfl, hb⟩
    have K := Lib.hid (HS.out.below hb)
    have C := (HC1.mono (S' := (· = b)) (fun _ h => h.elim)).call hb
    clear hb HC1
    go_wp2
    go_ret
    exact ⟨rfl, K.out, by (repeat (first | with_reducible assumption | with_reducible exact Ch.refl _ _ | with_reducible refine Ch.drew ?_ | with_reducible refine Ch.alloc ?_ _ | (with_reducible refine Ch.set' ?_ ?_; focus (first | (right; rfl; done) | (left; simp; done) | (left; simp; omega) | (left; omega) | (right; simp; done) | (right; simp; omega)))))⟩
  | true =>
    cases h2 : lessB a1 a2 t n with
    | true =>
      have z1 : readE t n a1 a2 = 180 := by simp [readE, h, h2]
      have z2 : readT t n a1 a2 = t := by simp [readT, z1]
      have z3 : readN t n a1 a2 = n := by simp [readN, z1]
      rw [z1, z2, z3]; clear z1 z2 z3
      rw [h2] at HMAY
      have H := Lib.hid h; clear h
      have HM := Lib.hid HMAY
      have HS := Lib.hid S1; clear S1 hs HMAY h2
      go_enter Try.func28, Try.ntmps28
      go_wp2_with fail
      refine (see_no b c m t n a1 a2 180 _ _ _ HS.out H.out (by omega) (fun w => enter39 _ _ w) HM.out).mono ?_
      rintro e w1 ⟨rfl, hb⟩
      have K := Lib.hid (HS.out.below hb)
      have C := (HC1.mono (S' := (· = b)) (fun _ h => h.elim)).call hb
      clear hb HC1
      go_wp2
      go_ret
      exact ⟨rfl, K.out, by (repeat (first | with_reducible assumption | with_reducible exact Ch.refl _ _ | with_reducible refine Ch.drew ?_ | with_reducible refine Ch.alloc ?_ _ | (with_reducible refine Ch.set' ?_ ?_; focus (first | (right; rfl; done) | (left; simp; done) | (left; simp; omega) | (left; omega) | (right; simp; done) | (right; simp; omega)))))⟩
    | false =>
      have z1 : readE t n a1 a2 = 0 := by simp [readE, h, h2]
      have z2 : readT t n a1 a2 = maxT t n a1 a2 := by simp [readT, z1]
      have z3 : readN t n a1 a2 = maxN t n a1 a2 := by simp [readN, z1]
      rw [z1, z2, z3]; clear z1 z2 z3
      rw [h2] at HMAY
      have H := Lib.hid h; clear h
      have HM := Lib.hid HMAY
      have HS := Lib.hid S1; clear S1 hs HMAY h2
      go_enter Try.func28, Try.ntmps28
      go_wp2_with fail
      refine (see_yes b c m t n a1 a2 _ _ _ HS.out H.out (fun w => enter39 _ _ w) HM.out).mono ?_
      rintro e w1 ⟨rfl, K1, C1⟩
      have K := Lib.hid K1
      have C := (HC1.mono (S' := (· = b)) (fun _ h => h.elim)).trans C1
      clear K1 C1 HC1
      go_wp2
      go_ret
      exact ⟨rfl, K.out, by (repeat (first | with_reducible assumption | with_reducible exact Ch.refl _ _ | with_reducible refine Ch.drew ?_ | with_reducible refine Ch.alloc ?_ _ | (with_reducible refine Ch.set' ?_ ?_; focus (first | (right; rfl; done) | (left; simp; done) | (left; simp; omega) | (left; omega) | (right; simp; done) | (right; simp; omega)))))⟩

set_option maxRecDepth 100000 in
theorem fork_ok (b : Nat) (c m t n k : Int) (w : World) (hs : Ses w b c m t n) (h0 : 0 ≤ k) (h1 : k ≤ 1099511627776) :
    Calls Try.prog 18 #[.pointer (some ⟨b, 0, none⟩), .int .i64 k] w fun e w' => ∃ g, e = .returned (.tuple #[.pointer (some ⟨g, 0, none⟩), .int .i64 0]) ∧ w.heap.size ≤ g ∧ Ses w' g k 0 t n ∧ Below w.heap.size w w' := by
  have hlt := Blk.lt hs
  have HS := Lib.hid hs; clear hs
  go_enter Try.func18, Try.ntmps18
  go_wp2_with fail
  refine (new_ok k w h0 h1).mono ?_
  rintro e w1 ⟨rfl, N1, hb⟩
  have S1 := HS.out.below hb
  obtain ⟨q1, q2⟩ := S1.cells
  obtain ⟨q3, q4⟩ := N1.cells
  have H1 := Lib.hid N1
  have l1 := Blk.lt N1
  have C := (Ch.refl (fun _ => False) w).call hb
  have hne : ¬ b = w.heap.size := by omega
  have hne' : ¬ w.heap.size = b := by omega
  clear S1 N1 hb
  go_wp2
  go_ret2
  exact ⟨_, rfl, Nat.le_refl _, Blk.set (Blk.set H1.out 2 _) 3 _, Ch.below (by (repeat (first | with_reducible assumption | with_reducible exact Ch.refl _ _ | with_reducible refine Ch.drew ?_ | with_reducible refine Ch.alloc ?_ _ | (with_reducible refine Ch.set' ?_ ?_; focus (first | (right; rfl; done) | (left; simp; done) | (left; simp; omega) | (left; omega) | (right; simp; done) | (right; simp; omega))))))⟩

theorem fork_bad (b : Nat) (k : Int) (w : World) (h : (decide (0 ≤ k) && decide (k ≤ 1099511627776)) = false) :
    Calls Try.prog 18 #[.pointer (some ⟨b, 0, none⟩), .int .i64 k] w fun e w' => e = .returned (.tuple #[.pointer none, .int .i64 1]) ∧ Below w.heap.size w w' := by
  have H := Lib.hid h; clear h
  go_enter Try.func18, Try.ntmps18
  go_wp2_with fail
  refine (new_bad k w H.out).mono ?_
  rintro e w1 ⟨rfl, hb⟩
  go_wp2
  go_ret2
  exact ⟨rfl, hb⟩

set_option maxRecDepth 100000 in
theorem join_any (b b2 : Nat) (c m t n c2 m2 t2 n2 : Int) (w : World) (hs : Ses w b c m t n) (hs2 : Ses w b2 c2 m2 t2 n2) :
    Calls Try.prog 20 #[.pointer (some ⟨b, 0, none⟩), .pointer (some ⟨b2, 0, none⟩)] w fun e w' => e = .returned (.tuple #[]) ∧ Ses w' b c m (maxT t n t2 n2) (maxN t n t2 n2) ∧ Ch (· = b) w w' := by
  have l1 := Blk.lt hs
  have l2 := Blk.lt hs2
  have KS := Lib.hid hs
  have e1 : w.cell? ⟨b, 2, none⟩ = some (.int .i64 t) := hs.cell 2
  have e2 : w.cell? ⟨b, 3, none⟩ = some (.int .i64 n) := hs.cell 3
  have e3 : w.cell? ⟨b2, 2, none⟩ = some (.int .i64 t2) := hs2.cell 2
  have e4 : w.cell? ⟨b2, 3, none⟩ = some (.int .i64 n2) := hs2.cell 3
  have f1 : w.frozen? ⟨b, 2, none⟩ = false := hs.free 2
  have f2 : w.frozen? ⟨b, 3, none⟩ = false := hs.free 3
  clear hs hs2
  go_enter Try.func20, Try.ntmps20
  go_wp2_with fail
  go_region_with (go_at_call 9; refine (max_any t n t2 n2 _).mono ?_; rintro e w3 ⟨rfl, hb3⟩; have g1 := (hb3.cell l1).trans e1; have g2 := (hb3.cell l1).trans e2; have k1 := (hb3.frozen l1).trans f1; have k2 := (hb3.frozen l1).trans f2)
  all_goals
    have H3 : Ses w3 b c m t n := Blk.below (Blk.drew KS.out) hb3
    have c3 := (Ch.refl (· = b) w).drew.call hb3
    have K3 := Lib.hid H3
    clear H3 hb3
    go_wp2
    go_end0
    exact ⟨rfl, Blk.set (Blk.set K3.out 2 _) 3 _, by (repeat (first | with_reducible assumption | with_reducible exact Ch.refl _ _ | with_reducible refine Ch.drew ?_ | with_reducible refine Ch.alloc ?_ _ | (with_reducible refine Ch.set' ?_ ?_; focus (first | (right; rfl; done) | (left; simp; done) | (left; simp; omega) | (left; omega) | (right; simp; done) | (right; simp; omega)))))⟩
end Go.Proofs.Ytjilfmphdncapaa
