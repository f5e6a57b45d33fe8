/- The contracts of package session: Read, Fork, Join. -/
import Derived.Test.YtpdibjaeopcimaaSesB
set_option linter.unusedVariables false
set_option linter.unusedSimpArgs false
namespace Go.Proofs.Ytpdibjaeopcimaa.Sn
open Go.RowKit

theorem enter39 (a b : Value) (w : World) : (callFunc 60 #[a, b]).run Try.prog w = .ok (.enter 60 #[a, b]) w := by go_simp

set_option maxRecDepth 100000 in
theorem read_any (b : Nat) (c m t n a1 a2 : Int) (w : World) (hs : Ses w b c m t n) :
    Calls Try.prog 53 #[.pointer (some ⟨b, 0, none⟩), .agg #[.int .i64 a1, .int .i64 a2]] w fun e w' => e = .returned (.int .i64 (readE t n a1 a2)) ∧ Ses w' b c m (readT t n a1 a2) (readN t n a1 a2) ∧ Ch (· = b) w w' := by
  have HC1 := ((Ch.refl (fun _ => False) w).alloc (.cells #[.pointer (some ⟨b, 0, none⟩)] 29)).alloc (.cells #[.int .i64 a1, .int .i64 a2] 37)
  have B1 := (Blk.new w #[.pointer (some ⟨b, 0, none⟩)] 29).alloc (.cells #[.int .i64 a1, .int .i64 a2] 37)
  have B2 := Blk.new (w.alloc (.cells #[.pointer (some ⟨b, 0, none⟩)] 29)) #[.int .i64 a1, .int .i64 a2] 37
  have S1 : Ses _ b c m t n := Blk.ch hs HC1 id
  have HMAY : ∀ w', Below ((w.alloc (.cells #[.pointer (some ⟨b, 0, none⟩)] 29)).alloc (.cells #[.int .i64 a1, .int .i64 a2] 37)).heap.size ((w.alloc (.cells #[.pointer (some ⟨b, 0, none⟩)] 29)).alloc (.cells #[.int .i64 a1, .int .i64 a2] 37)) w' →
      Calls Try.prog 60 #[.pointer (some ⟨w.heap.size + 1, 0, none⟩), .pointer (some ⟨w.heap.size, 0, none⟩)] w' fun e w'' => e = .returned (.int .i64 (if lessB a1 a2 t n then 180 else 0)) ∧ Below w'.heap.size w' w'' :=
    fun w' hb => read1_any b _ _ c m t n a1 a2 w' (S1.below hb) (B1.below hb) (by simpa using B2.below hb)
  clear B1 B2
  cases h : rightB a1 a2 with
  | false =>
    have z1 : readE t n a1 a2 = 1 := by simp [readE, h]
    have z2 : readT t n a1 a2 = t := by simp [readT, z1]
    have z3 : readN t n a1 a2 = n := by simp [readN, z1]
    rw [z1, z2, z3]; clear z1 z2 z3
    have H := Lib.hid h; clear h
    have HS := Lib.hid S1; clear S1 hs HMAY
    go_enter Try.func53, Try.ntmps53
    go_wp2_with fail
    refine (see_bad b t n a1 a2 _ _ _ H.out).mono ?_
    rintro e w1 ⟨rfl, hb⟩
    have K := Lib.hid (HS.out.below hb)
    have C := (HC1.mono (S' := (· = b)) (fun _ h => h.elim)).call hb
    clear hb HC1
    go_wp2
    go_ret
    exact ⟨rfl, K.out, by (repeat (first | with_reducible assumption | with_reducible exact Ch.refl _ _ | with_reducible refine Ch.drew ?_ | with_reducible refine Ch.alloc ?_ _ | (with_reducible refine Ch.set' ?_ ?_; focus (first | (right; rfl; done) | (left; simp; done) | (left; simp; omega) | (left; omega) | (right; simp; done) | (right; simp; omega)))))⟩
  | true =>
    cases h2 : lessB a1 a2 t n with
    | true =>
      have z1 : readE t n a1 a2 = 180 := by simp [readE, h, h2]
      have z2 : readT t n a1 a2 = t := by simp [readT, z1]
      have z3 : readN t n a1 a2 = n := by simp [readN, z1]
      rw [z1, z2, z3]; clear z1 z2 z3
      rw [h2] at HMAY
      have H := Lib.hid h; clear h
      have HM := Lib.hid HMAY
      have HS := Lib.hid S1; clear S1 hs HMAY h2
      go_enter Try.func53, Try.ntmps53
      go_wp2_with fail
      refine (see_no b c m t n a1 a2 180 _ _ _ HS.out H.out (by omega) (fun w => enter39 _ _ w) HM.out).mono ?_
      rintro e w1 ⟨rfl, hb⟩
      have K := Lib.hid (HS.out.below hb)
      have C := (HC1.mono (S' := (· = b)) (fun _ h => h.elim)).call hb
      clear hb HC1
      go_wp2
      go_ret
      exact ⟨rfl, K.out, by (repeat (first | with_reducible assumption | with_reducible exact Ch.refl _ _ | with_reducible refine Ch.drew ?_ | with_reducible refine Ch.alloc ?_ _ | (with_reducible refine Ch.set' ?_ ?_; focus (first | (right; rfl; done) | (left; simp; done) | (left; simp; omega) | (left; omega) | (right; simp; done) | (right; simp; omega)))))⟩
    | false =>
      have z1 : readE t n a1 a2 = 0 := by simp [readE, h, h2]
      have z2 : readT t n a1 a2 = maxT t n a1 a2 := by simp [readT, z1]
      have z3 : readN t n a1 a2 = maxN t n a1 a2 := by simp [readN, z1]
      rw [z1, z2, z3]; clear z1 z2 z3
      rw [h2] at HMAY
      have H := Lib.hid h; clear h
      have HM := Lib.hid HMAY
      have HS := Lib.hid S1; clear S1 hs HMAY h2
      go_enter Try.func53, Try.ntmps53
      go_wp2_with fail
      refine (see_yes b c m t n a1 a2 _ _ _ HS.out H.out (fun w => enter39 _ _ w) HM.out).mono ?_
      rintro e w1 ⟨rfl, K1, C1⟩
      have K := Lib.hid K1
      have C := (HC1.mono (S' := (· = b)) (fun _ h => h.elim)).trans C1
      clear K1 C1 HC1
      go_wp2
      go_ret
      exact ⟨rfl, K.out, by (repeat (first | with_reducible assumption | with_reducible exact Ch.refl _ _ | with_reducible refine Ch.drew ?_ | with_reducible refine Ch.alloc ?_ _ | (with_reducible refine Ch.set' ?_ ?_; focus (first | (right; rfl; done) | (left; simp; done) | (left; simp; omega) | (left; omega) | (right; simp; done) | (right; simp; omega)))))⟩

end Go.Proofs.Ytpdibjaeopcimaa.Sn
