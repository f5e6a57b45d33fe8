/- The reference's Encode and Decode of tokens. -/
import Derived.Test.YtjilfmphdncapaaTok
import Derived.Test.YtjilfmphdncapaaSesRef
import Derived.Test.YtjilfmphdncapaaB3
import Derived.Test.YtjilfmphdncapaaTail
set_option linter.unusedVariables false
set_option linter.unusedSimpArgs false
namespace Go.Proofs.Ytjilfmphdncapaa
open Go.RowKit PSessionTokens Go.Proofs.YtjilfmphdncapaaW.PrintWords

theorem refnum_ok (n : Nat) (hn : n ≤ 4611686018427387904) (w : World) : Calls Try.prog 33 #[.int .i64 (n : Int)] w fun e w' => e = .returned (.string (bS (encN n))) ∧ Below w.heap.size w w' := by
  obtain ⟨K, hK⟩ := numf n hn
  exact carabinerref02_Num.calls K _ _ w (hK K (Nat.le_refl _))

def RefEnc (a b : Int) (w : World) (e : Ending) (w' : World) : Prop :=
  ∃ ad cap, e = .returned (.tuple #[.slice ad (tokL a b).length cap, .bool true]) ∧ RowAt w' ad 1 b1 (tokL a b) ∧ Below w.heap.size w w'

set_option maxRecDepth 100000 in
set_option maxHeartbeats 4000000 in
theorem refencode_bad (a b : Int) (w : World) (h : rightB a b = false) : Calls Try.prog 22 #[.agg #[.int .i64 a, .int .i64 b]] w fun e w' => e = .returned (.tuple #[.slice none 0 0, .bool false]) ∧ Below w.heap.size w w' := by
  have HR := refRight_any a b (w.alloc (.cells #[.int .i64 a, .int .i64 b] 23))
  rw [h] at HR
  have HR := Lib.hid HR
  have HC := Lib.hid ((Ch.refl (fun _ => False) w).alloc (.cells #[.int .i64 a, .int .i64 b] 23))
  clear h
  go_enter Try.func22, Try.ntmps22
  go_wp2_with fail
  refine HR.out.mono ?_
  rintro e w1 ⟨rfl, hb1⟩
  go_wp2_with fail
  exact bodyPost_ret (v := .tuple #[.slice none 0 0, .bool false]) (by simp [results, Try.results22, go_sem]) rfl ⟨rfl, (HC.out.call hb1).below⟩

set_option maxRecDepth 100000 in
set_option maxHeartbeats 4000000 in
theorem refencode_ok (a b : Int) (w : World) (h : rightB a b = true) : Calls Try.prog 22 #[.agg #[.int .i64 a, .int .i64 b]] w (RefEnc a b w) := by
  have hb := rightB_bounds h
  have HR := refRight_any a b (w.alloc (.cells #[.int .i64 a, .int .i64 b] 23))
  rw [h] at HR
  have HR := Lib.hid HR
  have HC := Lib.hid ((Ch.refl (fun _ => False) w).alloc (.cells #[.int .i64 a, .int .i64 b] 23))
  have HB := Lib.hid (Blk.new w #[.int .i64 a, .int .i64 b] 23)
  obtain ⟨m, rfl⟩ : ∃ m : Nat, a = (m : Int) := ⟨a.toNat, by omega⟩
  obtain ⟨n, rfl⟩ : ∃ n : Nat, b = (n : Int) := ⟨b.toNat, by omega⟩
  have hm : m ≤ 64 := by omega
  have hn : n ≤ 1099511627776 := by omega
  have htok : tokL (m : Int) (n : Int) = encN m ++ encN n := by simp [tokL]
  have HTK := Lib.hid htok
  have l1 : (bS (encN m)).size ≤ 9 := by rw [bS_size]; exact encN_len 8 m (by omega)
  have l2 : (bS (encN n)).size ≤ 9 := by rw [bS_size]; exact encN_len 8 n (by omega)
  clear h hb htok
  go_enter Try.func22, Try.ntmps22
  go_wp2_with fail
  refine HR.out.mono ?_
  rintro e w1 ⟨rfl, hb1⟩
  have HC1 := Lib.hid (HC.out.call hb1)
  obtain ⟨q1, q2⟩ := (HB.out.below hb1).laterCells
  have N1 := Lib.hid (fun x : Later w1 => refnum_ok m (by omega) x.w)
  have N2 := Lib.hid (fun x : Later w1 => refnum_ok n (by omega) x.w)
  clear HR hb1 HB HC
  go_wp2_with fail
  refine wp_region_quiet_tail 7 (C := fun w' => ∃ x : Later w1, w' = x.w) (by kernel_rfl) (by kernel_rfl) ⟨⟨w1.drew, (Below.refl _ _).drew⟩, rfl⟩ ?_
  simp only [List.take_succ_cons, List.take_zero, List.drop_succ_cons, List.drop_zero]
  go_big_quiet_step (fail)
  go_big_quiet_step (fail)
  go_big_quiet_step (first | (go_at_call 33; exact Calls.later (N1.out _)))
  go_big_quiet_step (fail)
  go_big_quiet_step (fail)
  go_big_quiet_step (first | (go_at_call 33; exact Calls.later (N2.out _)))
  go_big_quiet_step (fail)
  refine wpQuiet_nil ?_
  rintro _ ⟨x, rfl⟩
  obtain ⟨cap, w6, hconv, hrow, hb6⟩ := conv_bytes x.w (bS (encN m) ++ bS (encN n))
  have hs : sB (bS (encN m) ++ bS (encN n)) = tokL (m : Int) (n : Int) := by
    rw [bS_add, HTK.out, sB_bS (fun y hy => by
      rcases List.mem_append.1 hy with h | h
      · exact encN_lt _ y h
      · exact encN_lt _ y h)]
  rw [hs] at hconv hrow
  have HROW := Lib.hid hrow
  have HC6 := Lib.hid ((HC1.out.call x.h).call hb6)
  clear hrow hb6 hs
  go_wp2_with fail
  exact bodyPost_ret (v := .tuple #[.slice (some ⟨x.w.heap.size, 0, none⟩) (tokL (m : Int) (n : Int)).length cap, .bool true]) (by simp [results, Try.results22, go_sem]) rfl ⟨_, _, rfl, HROW.out, HC6.out.below⟩
end Go.Proofs.Ytjilfmphdncapaa
