/- queue's Push, Pop and Parse, by their contracts. -/
import Derived.Test.YthknfikjanoflaaPkM
set_option linter.unusedVariables false
set_option linter.unusedSimpArgs false
namespace Go.Proofs.Ythknfikjanoflaa
open Go.RowKit

theorem enc1 : encN 1 = [1] := encN_small (by decide)
theorem enc2 : encN 2 = [2] := encN_small (by decide)

/-- An event. -/
structure Ev where
  push : Bool
  id : Nat
  item : ByteArray
deriving DecidableEq
def Ev.ok (e : Ev) : Prop := e.id ≤ 1099511627776 ∧ e.item.size ≤ 900
/-- What a log has of a push, of a pop. -/
def pushL (id : Nat) (s : ByteArray) : List Nat := 1 :: (encN id ++ (encN s.size ++ sB s))
def popL (id : Nat) : List Nat := 2 :: encN id
theorem pushL_lt (id : Nat) (s : ByteArray) : ∀ b ∈ pushL id s, b < 256 := by
  intro b hb
  rcases List.mem_cons.1 hb with rfl | hb
  · decide
  · rcases List.mem_append.1 hb with h | h
    · exact encN_lt _ b h
    · rcases List.mem_append.1 h with h | h
      · exact encN_lt _ b h
      · exact sB_lt _ b h
theorem popL_lt (id : Nat) : ∀ b ∈ popL id, b < 256 := by
  intro b hb
  rcases List.mem_cons.1 hb with rfl | hb
  · decide
  · exact encN_lt _ b hb

theorem may_any (id : Int) (w : World) : Calls Try.prog 27 #[.int .i64 id] w fun e w' => e = .returned (.bool (decide (0 ≤ id ∧ id ≤ 1099511627776))) ∧ Below w.heap.size w w' := by
  by_cases h0 : 0 ≤ id
  · have t0 : decide (0 ≤ id) = true := by simpa using h0
    by_cases h1 : id ≤ 1099511627776
    · have t1 : decide (id ≤ 1099511627776) = true := by simpa using h1
      rw [show decide (0 ≤ id ∧ id ≤ 1099511627776) = true by simp [h0, h1]]
      clear h0 h1
      go_enter Try.func27, Try.ntmps27
      go_wp2_with fail
      go_ret
      exact ⟨rfl, Ch.below (by (repeat (first | with_reducible assumption | with_reducible exact Ch.refl _ _ | with_reducible refine Ch.drew ?_ | with_reducible refine Ch.alloc ?_ _ | (with_reducible refine Ch.set' ?_ ?_; focus (first | (right; rfl; done) | (left; simp; done) | (left; simp; omega) | (left; omega) | (right; simp; done) | (right; simp; omega))))))⟩
    · have t1 : decide (id ≤ 1099511627776) = false := by simpa using h1
      rw [show decide (0 ≤ id ∧ id ≤ 1099511627776) = false by simp [h1]]
      clear h0 h1
      go_enter Try.func27, Try.ntmps27
      go_wp2_with fail
      go_ret
      exact ⟨rfl, Ch.below (by (repeat (first | with_reducible assumption | with_reducible exact Ch.refl _ _ | with_reducible refine Ch.drew ?_ | with_reducible refine Ch.alloc ?_ _ | (with_reducible refine Ch.set' ?_ ?_; focus (first | (right; rfl; done) | (left; simp; done) | (left; simp; omega) | (left; omega) | (right; simp; done) | (right; simp; omega))))))⟩
  · have t0 : decide (0 ≤ id) = false := by simpa using h0
    rw [show decide (0 ≤ id ∧ id ≤ 1099511627776) = false by simp [h0]]
    clear h0
    go_enter Try.func27, Try.ntmps27
    go_wp2_with fail
    go_ret
    exact ⟨rfl, Ch.below (by (repeat (first | with_reducible assumption | with_reducible exact Ch.refl _ _ | with_reducible refine Ch.drew ?_ | with_reducible refine Ch.alloc ?_ _ | (with_reducible refine Ch.set' ?_ ?_; focus (first | (right; rfl; done) | (left; simp; done) | (left; simp; omega) | (left; omega) | (right; simp; done) | (right; simp; omega))))))⟩

/-- What Push and Pop give. -/
def PushOk (id : Int) (s : ByteArray) : Prop := (0 ≤ id ∧ id ≤ 1099511627776) ∧ s.size ≤ 900
instance (id : Int) (s : ByteArray) : Decidable (PushOk id s) := by unfold PushOk; infer_instance

set_option maxRecDepth 100000 in
set_option maxHeartbeats 4000000 in
theorem push_bad (id : Int) (s : ByteArray) (w : World) (h : ¬ PushOk id s) (hs : s.size ≤ maxLen) : Calls Try.prog 10 #[.int .i64 id, .string s] w fun e w' => e = .returned (.tuple #[.string ⟨#[]⟩, .bool false]) ∧ Below w.heap.size w w' := by
  have HM := may_any id w
  by_cases h0 : 0 ≤ id ∧ id ≤ 1099511627776
  · rw [show decide (0 ≤ id ∧ id ≤ 1099511627776) = true by simp [h0]] at HM
    have hs9 : 900 < s.size := by
      rcases Nat.lt_or_ge 900 s.size with h1 | h1
      · exact h1
      · exact absurd ⟨h0, h1⟩ h
    have t1 : decide ((900 : Int) < (s.size : Int)) = true := by simp; omega
    have HM := Lib.hid HM
    clear h h0 hs9
    go_enter Try.func10, Try.ntmps10
    go_wp2_with fail
    refine HM.out.mono ?_
    rintro e w1 ⟨rfl, hb1⟩
    go_wp2_with fail
    exact bodyPost_ret (v := .tuple #[.string ⟨#[]⟩, .bool false]) (by simp [results, Try.results10, go_sem]) rfl ⟨rfl, hb1⟩
  · rw [show decide (0 ≤ id ∧ id ≤ 1099511627776) = false by simpa using h0] at HM
    have HM := Lib.hid HM
    clear h h0
    go_enter Try.func10, Try.ntmps10
    go_wp2_with fail
    refine HM.out.mono ?_
    rintro e w1 ⟨rfl, hb1⟩
    go_wp2_with fail
    exact bodyPost_ret (v := .tuple #[.string ⟨#[]⟩, .bool false]) (by simp [results, Try.results10, go_sem]) rfl ⟨rfl, hb1⟩

set_option maxRecDepth 100000 in
set_option maxHeartbeats 4000000 in
theorem push_ok (id : Nat) (s : ByteArray) (w : World) (h : id ≤ 1099511627776) (hs : s.size ≤ 900) : Calls Try.prog 10 #[.int .i64 (id : Int), .string s] w fun e w' => e = .returned (.tuple #[.string (bS (pushL id s)), .bool true]) ∧ Below w.heap.size w w' := by
  have HM := may_any (id : Int) w
  rw [show decide (0 ≤ (id : Int) ∧ (id : Int) ≤ 1099511627776) = true by simp; omega] at HM
  have HM := Lib.hid HM
  have t1 : decide ((900 : Int) < (s.size : Int)) = false := by simp; omega
  have HE := Lib.hid (fun w1 : World => encs_ok w.heap.size w1.heap.size (.slice none 0 0) [] [1, id] (w1.alloc (.cells #[.int .i64 1, .int .i64 (id : Int)] 3)) (Blk.new w1 _ _) (BRow.nil _ _))
  have hen : (encN id).length ≤ 9 := encN_len 8 id (by omega)
  have HL := Lib.hid (show encL [1, id] ++ (encN s.size ++ sB s) = pushL id s by simp [encL, enc1, pushL])
  have HLL := Lib.hid (show (encL [1, id]).length ≤ 10 by simp [encL, enc1]; omega)
  have HLT := Lib.hid (pushL_lt id s)
  go_enter Try.func10, Try.ntmps10
  go_wp2_with fail
  refine HM.out.mono ?_
  rintro e w1 ⟨rfl, hb1⟩
  have HC0 := Lib.hid (((Ch.of_below (fun _ => False) hb1)).alloc (.cells #[.int .i64 1, .int .i64 (id : Int)] 3))
  have HE1 := HE.out w1 (by simpa using Nat.le_succ_of_le hb1.size) (by simp [Value.ownBlock]) (by intro m hm; simp at hm; omega) (by simp) (by simp)
  have HE1 := Lib.hid HE1
  have hsz := hb1.size
  clear HE hb1 HM
  go_wp2_with fail
  refine HE1.out.mono ?_
  rintro e w2 ⟨v2, rfl, R2, _, c2⟩
  rw [List.nil_append] at R2
  have HC2 := Lib.hid (HC0.out.step c2 (fun k _ e => by simp [Value.ownBlock] at e))
  have HR2 := Lib.hid R2
  have HT := Lib.hid (text_ok w.heap.size v2 (encL [1, id]) s w2 R2 HC2.out.size (by omega) (by have := HLL.out; omega))
  clear HE1 R2 c2 HC0
  go_wp2_with fail
  refine HT.out.mono ?_
  rintro e w3 ⟨v3, rfl, R3, c3⟩
  have HC3 := Lib.hid (HC2.out.step c3 (fun k hk e => by have := HR2.out.own k e; omega))
  rw [HL.out] at R3
  have hstr := brow_string R3 HLT.out
  clear HT R3 c3 HC2 HR2
  go_wp2_with fail
  exact bodyPost_ret (v := .tuple #[.string (bS (pushL id s)), .bool true]) (by simp [results, Try.results10, go_sem]) rfl ⟨rfl, HC3.out.below⟩

set_option maxRecDepth 100000 in
set_option maxHeartbeats 4000000 in
theorem pop_bad (id : Int) (w : World) (h : ¬ (0 ≤ id ∧ id ≤ 1099511627776)) : Calls Try.prog 12 #[.int .i64 id] w fun e w' => e = .returned (.tuple #[.string ⟨#[]⟩, .bool false]) ∧ Below w.heap.size w w' := by
  have HM := may_any id w
  rw [show decide (0 ≤ id ∧ id ≤ 1099511627776) = false by simpa using h] at HM
  have HM := Lib.hid HM
  clear h
  go_enter Try.func12, Try.ntmps12
  go_wp2_with fail
  refine HM.out.mono ?_
  rintro e w1 ⟨rfl, hb1⟩
  go_wp2_with fail
  exact bodyPost_ret (v := .tuple #[.string ⟨#[]⟩, .bool false]) (by simp [results, Try.results12, go_sem]) rfl ⟨rfl, hb1⟩

set_option maxRecDepth 100000 in
set_option maxHeartbeats 4000000 in
theorem pop_ok (id : Nat) (w : World) (h : id ≤ 1099511627776) : Calls Try.prog 12 #[.int .i64 (id : Int)] w fun e w' => e = .returned (.tuple #[.string (bS (popL id)), .bool true]) ∧ Below w.heap.size w w' := by
  have HM := may_any (id : Int) w
  rw [show decide (0 ≤ (id : Int) ∧ (id : Int) ≤ 1099511627776) = true by simp; omega] at HM
  have HM := Lib.hid HM
  have HE := Lib.hid (fun w1 : World => encs_ok w.heap.size w1.heap.size (.slice none 0 0) [] [2, id] (w1.alloc (.cells #[.int .i64 2, .int .i64 (id : Int)] 3)) (Blk.new w1 _ _) (BRow.nil _ _))
  have HL := Lib.hid (show encL [2, id] = popL id by simp [encL, enc2, popL])
  have HLT := Lib.hid (popL_lt id)
  go_enter Try.func12, Try.ntmps12
  go_wp2_with fail
  refine HM.out.mono ?_
  rintro e w1 ⟨rfl, hb1⟩
  have HC0 := Lib.hid (((Ch.of_below (fun _ => False) hb1)).alloc (.cells #[.int .i64 2, .int .i64 (id : Int)] 3))
  have HE1 := HE.out w1 (by simpa using Nat.le_succ_of_le hb1.size) (by simp [Value.ownBlock]) (by intro m hm; simp at hm; omega) (by simp) (by simp)
  have HE1 := Lib.hid HE1
  have hsz := hb1.size
  clear HE hb1 HM
  go_wp2_with fail
  refine HE1.out.mono ?_
  rintro e w2 ⟨v2, rfl, R2, _, c2⟩
  rw [List.nil_append] at R2
  have HC2 := Lib.hid (HC0.out.step c2 (fun k _ e => by simp [Value.ownBlock] at e))
  rw [HL.out] at R2
  have hstr := brow_string R2 HLT.out
  clear HE1 R2 c2 HC0
  go_wp2_with fail
  exact bodyPost_ret (v := .tuple #[.string (bS (popL id)), .bool true]) (by simp [results, Try.results12, go_sem]) rfl ⟨rfl, HC2.out.below⟩
end Go.Proofs.Ythknfikjanoflaa
