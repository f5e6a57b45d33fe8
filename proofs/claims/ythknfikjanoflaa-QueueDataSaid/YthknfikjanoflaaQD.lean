/- QueueData: the walk. -/
import Derived.Test.YthknfikjanoflaaRQP
set_option linter.unusedVariables false
set_option linter.unusedSimpArgs false
namespace Go.Proofs.Ythknfikjanoflaa
open Go.RowKit

theorem push_both (id : Int) (s : ByteArray) (hs : s.size ≤ 140737488351232) : ∃ (x : ByteArray) (b : Bool),
    (∀ w : World, Calls Try.prog 10 #[.int .i64 id, .string s] w fun e w' => e = .returned (.tuple #[.string x, .bool b]) ∧ Below w.heap.size w w') ∧
    (∀ w : World, Calls Try.prog 11 #[.agg #[.bool true, .int .i64 id, .string s]] w fun e w' => e = .returned (.tuple #[.string x, .bool b]) ∧ Below w.heap.size w w') := by
  by_cases h : PushOk id s
  · obtain ⟨k, rfl⟩ : ∃ k : Nat, id = (k : Int) := ⟨id.toNat, by have := h.1.1; omega⟩
    exact ⟨_, _, fun w => push_ok k s w (by have := h.1.2; omega) h.2, fun w => rdata_ok ⟨true, k, s⟩ w (by have := h.1.2; show k ≤ _; omega) h.2⟩
  · exact ⟨_, _, fun w => push_bad id s w h (by unfold maxLen; omega), fun w => rdata_bad true id s w h hs⟩
theorem pop_both (id : Int) : ∃ (x : ByteArray) (b : Bool),
    (∀ w : World, Calls Try.prog 12 #[.int .i64 id] w fun e w' => e = .returned (.tuple #[.string x, .bool b]) ∧ Below w.heap.size w w') ∧
    (∀ w : World, Calls Try.prog 11 #[.agg #[.bool false, .int .i64 id, .string ⟨#[]⟩]] w fun e w' => e = .returned (.tuple #[.string x, .bool b]) ∧ Below w.heap.size w w') := by
  by_cases h : 0 ≤ id ∧ id ≤ 1099511627776
  · obtain ⟨k, rfl⟩ : ∃ k : Nat, id = (k : Int) := ⟨id.toNat, by omega⟩
    exact ⟨_, _, fun w => pop_ok k w (by omega), fun w => rdata_ok ⟨false, k, ⟨#[]⟩⟩ w (by show k ≤ _; omega) (Nat.zero_le _)⟩
  · exact ⟨_, _, fun w => pop_bad id w h, fun w => rdata_bad false id ⟨#[]⟩ w (fun h2 => h h2.1) (Nat.zero_le _)⟩
theorem parseQV_form (l : List Nat) : ∃ (p : Bool) (i : Int) (s : ByteArray) (b : Bool), parseQV l = .tuple #[.agg #[.bool p, .int .i64 i, .string s], .bool b] := by
  unfold parseQV
  cases parseQ l with
  | none => exact ⟨_, _, _, _, rfl⟩
  | some e => exact ⟨_, _, _, _, rfl⟩

set_option maxRecDepth 100000 in
set_option maxHeartbeats 8000000 in
theorem data_main (id : Int) (s d : ByteArray) (w : World) (hs : s.size ≤ 5000) (hd : d.size ≤ 5000) :
    Calls Try.prog 3 #[.int .i64 id, .string s, .string d] w fun e w' => e = .returned (.bool true) ∧ Below w.heap.size w w' := by
  have t0 : decide ((5000 : Int) < (s.size : Int)) = false := by simp; omega
  have t0' : decide (5000 < s.size) = false := by simp; omega
  have t1 : decide ((5000 : Int) < (d.size : Int)) = false := by simp; omega
  have t1' : decide (5000 < d.size) = false := by simp; omega
  obtain ⟨x1, b1, h1, h2⟩ := push_both id s (by omega)
  obtain ⟨x2, b2, h3, h4⟩ := pop_both id
  obtain ⟨pp, pi, ps, pb, hp⟩ := parseQV_form (sB d)
  have h5 := fun w' => qparse_any d w' (by omega)
  have h6 := fun w' => rparse_any d w' (by omega)
  rw [hp] at h5 h6
  have H1 := Lib.hid h1
  have H2 := Lib.hid h2
  have H3 := Lib.hid h3
  have H4 := Lib.hid h4
  have H5 := Lib.hid h5
  have H6 := Lib.hid h6
  clear h1 h2 h3 h4 h5 h6 hp hs hd
  go_enter Try.func3, Try.ntmps3
  go_wp2_with fail
  refine (H1.out _).mono ?_
  rintro e w1 ⟨rfl, hb1⟩
  have K1 := Lib.hid (Ch.of_below (fun _ => False) hb1)
  clear hb1
  go_wp2_with fail
  refine (H2.out _).mono ?_
  rintro e w2 ⟨rfl, hb2⟩
  have K2 := Lib.hid (K1.out.call hb2)
  clear hb2 K1
  go_wp2_with fail
  refine (H3.out _).mono ?_
  rintro e w3 ⟨rfl, hb3⟩
  have K3 := Lib.hid (K2.out.call hb3)
  clear hb3 K2
  go_wp2_with fail
  refine (H4.out _).mono ?_
  rintro e w4 ⟨rfl, hb4⟩
  have K4 := Lib.hid (K3.out.call hb4)
  clear hb4 K3
  go_wp2_with fail
  refine (H5.out _).mono ?_
  rintro e w5 ⟨rfl, hb5⟩
  have K5 := Lib.hid (K4.out.call hb5)
  clear hb5 K4
  have V5 := Lib.hid (Blk.new w5 #[.bool pp, .int .i64 pi, .string ps] 29)
  have K5b := Lib.hid (K5.out.alloc (.cells #[.bool pp, .int .i64 pi, .string ps] 29))
  go_wp2_with fail
  refine (H6.out _).mono ?_
  rintro e w6 ⟨rfl, hb6⟩
  have K6 := Lib.hid (K5b.out.call hb6)
  have V6 := Lib.hid (V5.out.below hb6)
  obtain ⟨q1, q2⟩ := V6.out.cells
  have l6 := V6.out.lt
  clear hb6 K5 K5b V5
  go_wp2_with fail
  refine (alive_any _).mono ?_
  rintro e w7 ⟨rfl, hb7⟩
  obtain ⟨q3, q4⟩ := ((V6.out.alloc (.cells #[.bool pp, .int .i64 pi, .string ps] 27)).below hb7).cells
  obtain ⟨q5, q6⟩ := ((Blk.new w6 #[.bool pp, .int .i64 pi, .string ps] 27).below hb7).cells
  have K7 := Lib.hid ((K6.out.alloc (.cells #[.bool pp, .int .i64 pi, .string ps] 27)).call hb7)
  clear hb7 K6
  go_wp2_with fail
  go_ret
  exact ⟨rfl, K7.out.below⟩

set_option maxRecDepth 100000 in
theorem data_long (n : Int) (v d : ByteArray) (w : World) (h : 5000 < v.size ∨ (v.size ≤ 5000 ∧ 5000 < d.size)) :
    Calls Try.prog 3 #[.int .i64 n, .string v, .string d] w fun e w' => e = .returned (.bool true) ∧ Below w.heap.size w w' := by
  rcases h with h | ⟨h0, h⟩
  · have t0 : decide ((5000 : Int) < (v.size : Int)) = true := by simp; omega
    have t0' : decide (5000 < v.size) = true := by simp; omega
    clear h
    go_enter Try.func3, Try.ntmps3
    go_wp2_with fail
    refine (alive_any _).mono ?_
    rintro e w6 ⟨rfl, hb6⟩
    go_wp2_with fail
    go_ret
    exact ⟨rfl, hb6⟩
  · have t0 : decide ((5000 : Int) < (v.size : Int)) = false := by simp; omega
    have t0' : decide (5000 < v.size) = false := by simp; omega
    have t1 : decide ((5000 : Int) < (d.size : Int)) = true := by simp; omega
    have t1' : decide (5000 < d.size) = true := by simp; omega
    clear h h0
    go_enter Try.func3, Try.ntmps3
    go_wp2_with fail
    refine (alive_any _).mono ?_
    rintro e w6 ⟨rfl, hb6⟩
    go_wp2_with fail
    go_ret
    exact ⟨rfl, hb6⟩

/-- QueueData answers true. -/
theorem data_row (n : Int) (v d : ByteArray) (w : World) (_ : (Lit.int .i64 n).wf = true) (_ : v.size ≤ 140737488351232) (_ : d.size ≤ 140737488351232) :
    Calls Try.prog 3 #[.int .i64 n, .string v, .string d] w fun e w' => e = .returned (.bool true) ∧ Below w.heap.size w w' := by
  by_cases h1 : v.size ≤ 5000
  · by_cases h2 : d.size ≤ 5000
    · exact data_main n v d w h1 h2
    · exact data_long n v d w (.inr ⟨h1, by omega⟩)
  · exact data_long n v d w (.inl (by omega))
end Go.Proofs.Ythknfikjanoflaa
