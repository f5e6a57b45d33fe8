/- The contract of 'alive' of the session laws: it answers true, and changes nothing of before. -/
import Derived.Test.YtjilfmphdncapaaSesC
set_option linter.unusedVariables false
set_option linter.unusedSimpArgs false
namespace Go.Proofs.Ytjilfmphdncapaa
open Go.RowKit

theorem runEqFields_last {P : Program} {d : Nat} {xs ys : Array Value} {f : Field} {a b : Value} {r : Bool} {w : World} (hn : f.name ≠ "_") (ha : (part f.type xs f.offset).run P w = .ok a w) (hb : (part f.type ys f.offset).run P w = .ok b w) (he : (Op.equalIn d f.type a b).run P w = .ok r w) : (Op.eqFields d xs ys [f]).run P w = .ok r w := by
  simp only [Op.eqFields, if_pos hn, Sem.run_bind, ha, hb, he, Result.andThen_ok]
  cases r <;> simp
theorem runEqFields_cons {P : Program} {d : Nat} {xs ys : Array Value} {f : Field} {fs : List Field} {a b : Value} {r s : Bool} {w : World} (hn : f.name ≠ "_") (ha : (part f.type xs f.offset).run P w = .ok a w) (hb : (part f.type ys f.offset).run P w = .ok b w) (he : (Op.equalIn d f.type a b).run P w = .ok r w) (hr : (Op.eqFields d xs ys fs).run P w = .ok s w) : (Op.eqFields d xs ys (f :: fs)).run P w = .ok (r && s) w := by
  rw [Op.eqFields]
  simp only [if_pos hn, Sem.run_bind, ha, hb, he, Result.andThen_ok]
  cases r
  · simp
  · simpa using hr

theorem runEq_struct {P : Program} {d : Nat} {t : TypeId} {fs : Array Field} {xs ys : Array Value} {r : Bool} {w : World} (hu : P.underlying t = some (.struct fs)) (hp : P.stoodInHeld t = false)
    (h : (Op.eqFields d xs ys fs.toList).run P w = .ok r w) : (Op.equalIn (d + 1) t (.agg xs) (.agg ys)).run P w = .ok r w := by
  have hf : P.fieldsOf t = fs := by simp [Program.fieldsOf, hu]
  rw [run_equalIn_struct (P := P) w d t xs ys (by rw [hf]; exact hu) hp, hf]
  exact h
/-- '==' of two tokens, as one Bool. -/
theorem eqTok (d : Nat) (w : World) (x0 y0 x1 y1 : Int) :
    (Op.equalIn (d + 2) 24 (.agg #[.int .i64 x0, .int .i64 x1]) (.agg #[.int .i64 y0, .int .i64 y1])).run Try.prog w = .ok (x0 == y0 && (x1 == y1)) w := by
  refine runEq_struct Try.underlying24 (by kernel_rfl) ?_
  refine runEqFields_cons (by decide) (by go_simp; rfl) (by go_simp; rfl) (by go_simp) ?_
  exact runEqFields_last (by decide) (by go_simp; rfl) (by go_simp; rfl) (by go_simp)

theorem alive_any (w : World) : Calls Try.prog 11 #[] w fun e w' => e = .returned (.bool true) ∧ Below w.heap.size w w' := by
  go_enter Try.func11, Try.ntmps11
  go_wp2_with fail
  refine (new_ok 3 _ (by omega) (by omega)).mono ?_
  rintro e w1 ⟨rfl, S1, hb1⟩
  have C1 := (Ch.refl (fun _ => False) w).call hb1
  have K1 := Lib.hid S1
  have g1 : w.heap.size ≤ w.heap.size := Nat.le_refl _
  clear S1 hb1
  have R1 := read_any _ 3 0 0 0 1 5 w1 K1.out
  rw [show readE 0 0 1 5 = 0 by decide, show readT 0 0 1 5 = 1 by decide, show readN 0 0 1 5 = 5 by decide] at R1
  have R1 := Lib.hid R1
  go_wp2_with fail
  refine R1.out.mono ?_
  rintro e w2 ⟨rfl, S2, c2⟩
  have C2 := C1.step c2 (fun k hk e => by omega)
  have K2 := Lib.hid S2
  have R2 := read_any _ 3 0 1 5 1 4 w2 S2
  rw [show readE 1 5 1 4 = 180 by decide, show readT 1 5 1 4 = 1 by decide, show readN 1 5 1 4 = 5 by decide] at R2
  have R2' := Lib.hid R2
  clear R1 K1 C1 S2 c2 R2
  go_wp2_with fail
  refine R2'.out.mono ?_
  rintro e w3 ⟨rfl, S3, c3⟩
  have C3 := C2.step c3 (fun k hk e => by omega)
  have K3 := Lib.hid S3
  have R3 := Lib.hid (fork_ok _ 3 0 1 5 4 w3 S3 (by omega) (by omega))
  clear R2' K2 C2 S3 c3
  go_wp2_with fail
  refine R3.out.mono ?_
  rintro e w4 ⟨g, rfl, hg, S4, hb4⟩
  have C4 := C3.call hb4
  have K4 := Lib.hid (K3.out.below hb4)
  have KF := Lib.hid S4
  have hg' := Nat.le_trans C3.size hg
  have hne : ¬ w.heap.size = g := by have := K3.out.lt; omega
  have R4 := Lib.hid (id_any _ 4 0 1 5 w4 S4 (by omega) (by omega))
  clear R3 K3 C3 S4 hb4
  go_wp2_with fail
  refine R4.out.mono ?_
  rintro e w5 ⟨rfl, S5, c5⟩
  have C5 := C4.step c5 (fun k hk e => by omega)
  have K5 := K4.out.ch c5 hne
  have K5' := Lib.hid (K5.alloc (.cells #[.int .i64 4, .int .i64 0] 41))
  have BI := Lib.hid (Blk.new w5 #[.int .i64 4, .int .i64 0] 41)
  have KF5 := Lib.hid (S5.alloc (.cells #[.int .i64 4, .int .i64 0] 41))
  have C5' := C5.alloc (.cells #[.int .i64 4, .int .i64 0] 41)
  have R5 := Lib.hid (token_any _ 3 0 1 5 _ K5'.out)
  have hgi := S5.lt
  clear R4 K4 KF C4 S5 c5 K5 C5
  go_wp2_with fail
  refine R5.out.mono ?_
  rintro e w6 ⟨rfl, hb6⟩
  have KF6 := Lib.hid (KF5.out.below hb6)
  have BI6 := Lib.hid (BI.out.below hb6)
  have C6 := C5'.call hb6
  have R6 := read_any _ 4 1 1 5 1 4 w6 KF6.out
  rw [show readE 1 5 1 4 = 180 by decide, show readT 1 5 1 4 = 1 by decide, show readN 1 5 1 4 = 5 by decide] at R6
  have R6' := Lib.hid R6
  have hw5 := C5'.size
  have hlt := KF6.out.lt
  clear R5 K5' KF5 BI C5' hb6 R6
  go_wp2_with fail
  refine R6'.out.mono ?_
  rintro e w7 ⟨rfl, S7, c7⟩
  have BI7 := BI6.out.ch c7 (by omega)
  have C7 := C6.step c7 (fun k hk e => by omega)
  obtain ⟨q1, q2⟩ := BI7.cells
  clear R6' C6 S7 c7 BI7 BI6
  go_wp2
  go_ret
  exact ⟨rfl, C7.below⟩
end Go.Proofs.Ytjilfmphdncapaa
