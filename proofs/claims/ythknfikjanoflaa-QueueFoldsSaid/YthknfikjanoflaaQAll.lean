/- queue's Push, Pop and Parse, by their contracts. And more of that kind. -/
import Derived.Test.YthknfikjanoflaaPkAll
import Derived.Test.YthknfikjanoflaaKitAll
import Derived.Deep.RegionLaw
set_option linter.unusedVariables false
set_option linter.unusedSimpArgs false
namespace Go.Proofs.Ythknfikjanoflaa
/-! queue's Push, Pop and Parse, by their contracts. -/
section

open Go.RowKit

theorem enc1 : encN 1 = [1] := encN_small (by decide)
theorem enc2 : encN 2 = [2] := encN_small (by decide)

/-- An event. -/
structure Ev where
  push : Bool
  id : Nat
  item : ByteArray
deriving DecidableEq
def Ev.ok (e : Ev) : Prop := e.id ≤ 1099511627776 ∧ e.item.size ≤ 900
/-- What a log has of a push, of a pop. -/
def pushL (id : Nat) (s : ByteArray) : List Nat := 1 :: (encN id ++ (encN s.size ++ sB s))
def popL (id : Nat) : List Nat := 2 :: encN id
theorem pushL_lt (id : Nat) (s : ByteArray) : ∀ b ∈ pushL id s, b < 256 := by
  intro b hb
  rcases List.mem_cons.1 hb with rfl | hb
  · decide
  · rcases List.mem_append.1 hb with h | h
    · exact encN_lt _ b h
    · rcases List.mem_append.1 h with h | h
      · exact encN_lt _ b h
      · exact sB_lt _ b h
theorem popL_lt (id : Nat) : ∀ b ∈ popL id, b < 256 := by
  intro b hb
  rcases List.mem_cons.1 hb with rfl | hb
  · decide
  · exact encN_lt _ b hb

theorem may_any (id : Int) (w : World) : Calls Try.prog 27 #[.int .i64 id] w fun e w' => e = .returned (.bool (decide (0 ≤ id ∧ id ≤ 1099511627776))) ∧ Below w.heap.size w w' := by
  by_cases h0 : 0 ≤ id
  · have t0 : decide (0 ≤ id) = true := by simpa using h0
    by_cases h1 : id ≤ 1099511627776
    · have t1 : decide (id ≤ 1099511627776) = true := by simpa using h1
      rw [show decide (0 ≤ id ∧ id ≤ 1099511627776) = true by simp [h0, h1]]
      clear h0 h1
      go_enter Try.func27, Try.ntmps27
      go_wp2_with fail
      go_ret
      exact ⟨rfl, Ch.below (by (repeat (first | with_reducible assumption | with_reducible exact Ch.refl _ _ | with_reducible refine Ch.drew ?_ | with_reducible refine Ch.alloc ?_ _ | (with_reducible refine Ch.set' ?_ ?_; focus (first | (right; rfl; done) | (left; simp; done) | (left; simp; omega) | (left; omega) | (right; simp; done) | (right; simp; omega))))))⟩
    · have t1 : decide (id ≤ 1099511627776) = false := by simpa using h1
      rw [show decide (0 ≤ id ∧ id ≤ 1099511627776) = false by simp [h1]]
      clear h0 h1
      go_enter Try.func27, Try.ntmps27
      go_wp2_with fail
      go_ret
      exact ⟨rfl, Ch.below (by (repeat (first | with_reducible assumption | with_reducible exact Ch.refl _ _ | with_reducible refine Ch.drew ?_ | with_reducible refine Ch.alloc ?_ _ | (with_reducible refine Ch.set' ?_ ?_; focus (first | (right; rfl; done) | (left; simp; done) | (left; simp; omega) | (left; omega) | (right; simp; done) | (right; simp; omega))))))⟩
  · have t0 : decide (0 ≤ id) = false := by simpa using h0
    rw [show decide (0 ≤ id ∧ id ≤ 1099511627776) = false by simp [h0]]
    clear h0
    go_enter Try.func27, Try.ntmps27
    go_wp2_with fail
    go_ret
    exact ⟨rfl, Ch.below (by (repeat (first | with_reducible assumption | with_reducible exact Ch.refl _ _ | with_reducible refine Ch.drew ?_ | with_reducible refine Ch.alloc ?_ _ | (with_reducible refine Ch.set' ?_ ?_; focus (first | (right; rfl; done) | (left; simp; done) | (left; simp; omega) | (left; omega) | (right; simp; done) | (right; simp; omega))))))⟩

/-- What Push and Pop give. -/
def PushOk (id : Int) (s : ByteArray) : Prop := (0 ≤ id ∧ id ≤ 1099511627776) ∧ s.size ≤ 900
instance (id : Int) (s : ByteArray) : Decidable (PushOk id s) := by unfold PushOk; infer_instance

set_option maxRecDepth 100000 in
set_option maxHeartbeats 4000000 in
theorem push_bad (id : Int) (s : ByteArray) (w : World) (h : ¬ PushOk id s) (hs : s.size ≤ maxLen) : Calls Try.prog 10 #[.int .i64 id, .string s] w fun e w' => e = .returned (.tuple #[.string ⟨#[]⟩, .bool false]) ∧ Below w.heap.size w w' := by
  have HM := may_any id w
  by_cases h0 : 0 ≤ id ∧ id ≤ 1099511627776
  · rw [show decide (0 ≤ id ∧ id ≤ 1099511627776) = true by simp [h0]] at HM
    have hs9 : 900 < s.size := by
      rcases Nat.lt_or_ge 900 s.size with h1 | h1
      · exact h1
      · exact absurd ⟨h0, h1⟩ h
    have t1 : decide ((900 : Int) < (s.size : Int)) = true := by simp; omega
    have HM := Lib.hid HM
    clear h h0 hs9
    go_enter Try.func10, Try.ntmps10
    go_wp2_with fail
    refine HM.out.mono ?_
    rintro e w1 ⟨rfl, hb1⟩
    go_wp2_with fail
    exact bodyPost_ret (v := .tuple #[.string ⟨#[]⟩, .bool false]) (by simp [results, Try.results10, go_sem]) rfl ⟨rfl, hb1⟩
  · rw [show decide (0 ≤ id ∧ id ≤ 1099511627776) = false by simpa using h0] at HM
    have HM := Lib.hid HM
    clear h h0
    go_enter Try.func10, Try.ntmps10
    go_wp2_with fail
    refine HM.out.mono ?_
    rintro e w1 ⟨rfl, hb1⟩
    go_wp2_with fail
    exact bodyPost_ret (v := .tuple #[.string ⟨#[]⟩, .bool false]) (by simp [results, Try.results10, go_sem]) rfl ⟨rfl, hb1⟩

set_option maxRecDepth 100000 in
set_option maxHeartbeats 4000000 in
theorem push_ok (id : Nat) (s : ByteArray) (w : World) (h : id ≤ 1099511627776) (hs : s.size ≤ 900) : Calls Try.prog 10 #[.int .i64 (id : Int), .string s] w fun e w' => e = .returned (.tuple #[.string (bS (pushL id s)), .bool true]) ∧ Below w.heap.size w w' := by
  have HM := may_any (id : Int) w
  rw [show decide (0 ≤ (id : Int) ∧ (id : Int) ≤ 1099511627776) = true by simp; omega] at HM
  have HM := Lib.hid HM
  have t1 : decide ((900 : Int) < (s.size : Int)) = false := by simp; omega
  have HE := Lib.hid (fun w1 : World => encs_ok w.heap.size w1.heap.size (.slice none 0 0) [] [1, id] (w1.alloc (.cells #[.int .i64 1, .int .i64 (id : Int)] 3)) (Blk.new w1 _ _) (BRow.nil _ _))
  have hen : (encN id).length ≤ 9 := encN_len 8 id (by omega)
  have HL := Lib.hid (show encL [1, id] ++ (encN s.size ++ sB s) = pushL id s by simp [encL, enc1, pushL])
  have HLL := Lib.hid (show (encL [1, id]).length ≤ 10 by simp [encL, enc1]; omega)
  have HLT := Lib.hid (pushL_lt id s)
  go_enter Try.func10, Try.ntmps10
  go_wp2_with fail
  refine HM.out.mono ?_
  rintro e w1 ⟨rfl, hb1⟩
  have HC0 := Lib.hid (((Ch.of_below (fun _ => False) hb1)).alloc (.cells #[.int .i64 1, .int .i64 (id : Int)] 3))
  have HE1 := HE.out w1 (by simpa using Nat.le_succ_of_le hb1.size) (by simp [Value.ownBlock]) (by intro m hm; simp at hm; omega) (by simp) (by simp)
  have HE1 := Lib.hid HE1
  have hsz := hb1.size
  clear HE hb1 HM
  go_wp2_with fail
  refine HE1.out.mono ?_
  rintro e w2 ⟨v2, rfl, R2, _, c2⟩
  rw [List.nil_append] at R2
  have HC2 := Lib.hid (HC0.out.step c2 (fun k _ e => by simp [Value.ownBlock] at e))
  have HR2 := Lib.hid R2
  have HT := Lib.hid (text_ok w.heap.size v2 (encL [1, id]) s w2 R2 HC2.out.size (by omega) (by have := HLL.out; omega))
  clear HE1 R2 c2 HC0
  go_wp2_with fail
  refine HT.out.mono ?_
  rintro e w3 ⟨v3, rfl, R3, c3⟩
  have HC3 := Lib.hid (HC2.out.step c3 (fun k hk e => by have := HR2.out.own k e; omega))
  rw [HL.out] at R3
  have hstr := brow_string R3 HLT.out
  clear HT R3 c3 HC2 HR2
  go_wp2_with fail
  exact bodyPost_ret (v := .tuple #[.string (bS (pushL id s)), .bool true]) (by simp [results, Try.results10, go_sem]) rfl ⟨rfl, HC3.out.below⟩

set_option maxRecDepth 100000 in
set_option maxHeartbeats 4000000 in
theorem pop_bad (id : Int) (w : World) (h : ¬ (0 ≤ id ∧ id ≤ 1099511627776)) : Calls Try.prog 12 #[.int .i64 id] w fun e w' => e = .returned (.tuple #[.string ⟨#[]⟩, .bool false]) ∧ Below w.heap.size w w' := by
  have HM := may_any id w
  rw [show decide (0 ≤ id ∧ id ≤ 1099511627776) = false by simpa using h] at HM
  have HM := Lib.hid HM
  clear h
  go_enter Try.func12, Try.ntmps12
  go_wp2_with fail
  refine HM.out.mono ?_
  rintro e w1 ⟨rfl, hb1⟩
  go_wp2_with fail
  exact bodyPost_ret (v := .tuple #[.string ⟨#[]⟩, .bool false]) (by simp [results, Try.results12, go_sem]) rfl ⟨rfl, hb1⟩

set_option maxRecDepth 100000 in
set_option maxHeartbeats 4000000 in
theorem pop_ok (id : Nat) (w : World) (h : id ≤ 1099511627776) : Calls Try.prog 12 #[.int .i64 (id : Int)] w fun e w' => e = .returned (.tuple #[.string (bS (popL id)), .bool true]) ∧ Below w.heap.size w w' := by
  have HM := may_any (id : Int) w
  rw [show decide (0 ≤ (id : Int) ∧ (id : Int) ≤ 1099511627776) = true by simp; omega] at HM
  have HM := Lib.hid HM
  have HE := Lib.hid (fun w1 : World => encs_ok w.heap.size w1.heap.size (.slice none 0 0) [] [2, id] (w1.alloc (.cells #[.int .i64 2, .int .i64 (id : Int)] 3)) (Blk.new w1 _ _) (BRow.nil _ _))
  have HL := Lib.hid (show encL [2, id] = popL id by simp [encL, enc2, popL])
  have HLT := Lib.hid (popL_lt id)
  go_enter Try.func12, Try.ntmps12
  go_wp2_with fail
  refine HM.out.mono ?_
  rintro e w1 ⟨rfl, hb1⟩
  have HC0 := Lib.hid (((Ch.of_below (fun _ => False) hb1)).alloc (.cells #[.int .i64 2, .int .i64 (id : Int)] 3))
  have HE1 := HE.out w1 (by simpa using Nat.le_succ_of_le hb1.size) (by simp [Value.ownBlock]) (by intro m hm; simp at hm; omega) (by simp) (by simp)
  have HE1 := Lib.hid HE1
  have hsz := hb1.size
  clear HE hb1 HM
  go_wp2_with fail
  refine HE1.out.mono ?_
  rintro e w2 ⟨v2, rfl, R2, _, c2⟩
  rw [List.nil_append] at R2
  have HC2 := Lib.hid (HC0.out.step c2 (fun k _ e => by simp [Value.ownBlock] at e))
  rw [HL.out] at R2
  have hstr := brow_string R2 HLT.out
  clear HE1 R2 c2 HC0
  go_wp2_with fail
  exact bodyPost_ret (v := .tuple #[.string (bS (popL id)), .bool true]) (by simp [results, Try.results12, go_sem]) rfl ⟨rfl, HC2.out.below⟩
end

/-! queue's Parse. -/
section

open Go.RowKit

/-- What any data says. -/
def parseQ (l : List Nat) : Option Ev :=
  let n1 := numE 0 2 l
  let n2 := numE n1.2.2 1099511627776 (l.drop n1.2.1)
  if n1.1 = 1 then
    let t := textE n2.2.2 900 (l.drop (n1.2.1 + n2.2.1))
    if t.2.2 = 0 ∧ n1.2.1 + n2.2.1 + t.2.1 = l.length then some ⟨true, n2.1, bS t.1⟩ else none
  else if n2.2.2 = 0 ∧ n1.2.1 + n2.2.1 = l.length ∧ n1.1 ≠ 0 then some ⟨false, n2.1, ⟨#[]⟩⟩ else none
def evV (e : Ev) : Value := .agg #[.bool e.push, .int .i64 (e.id : Nat), .string e.item]
def parseQV (l : List Nat) : Value := match parseQ l with
  | some e => .tuple #[evV e, .bool true]
  | none => .tuple #[.agg #[.bool false, .int .i64 0, .string ⟨#[]⟩], .bool false]

set_option maxRecDepth 100000 in
set_option maxHeartbeats 4000000 in
theorem qparse_any (s : ByteArray) (w : World) (hs : s.size ≤ 140737488351232) : Calls Try.prog 13 #[.string s] w fun e w' => e = .returned (parseQV (sB s)) ∧ Below w.heap.size w w' := by
  obtain ⟨cap, w1, hconv, hrow, hb1⟩ := conv_bytes (w.alloc (.cells #[.bool false, .int .i64 0, .string ⟨#[]⟩] 29)) s
  rw [show (w.alloc (.cells #[.bool false, .int .i64 0, .string ⟨#[]⟩] 29)).heap.size = w.heap.size + 1 by simp] at hconv hrow
  have BE1 := Lib.hid ((Blk.new w #[.bool false, .int .i64 0, .string ⟨#[]⟩] 29).below hb1)
  have hlen : (sB s).length ≤ 140737488351232 := by rw [sB_length]; exact hs
  have HN := Lib.hid (new_any _ cap (sB s) w1 hrow (by omega))
  have HC1 := Lib.hid (((Ch.refl (fun _ => False) w).alloc (.cells #[.bool false, .int .i64 0, .string ⟨#[]⟩] 29)).call hb1)
  have hml : (sB s).length ≤ maxLen := by unfold maxLen; omega
  obtain ⟨⟨n, c1, e1⟩, h1⟩ : ∃ x, numE 0 2 (sB s) = x := ⟨_, rfl⟩
  obtain ⟨⟨id, c2, e2⟩, h2⟩ : ∃ x, numE e1 1099511627776 ((sB s).drop c1) = x := ⟨_, rfl⟩
  obtain ⟨⟨t, c3, e3⟩, h3⟩ : ∃ x, textE e2 900 ((sB s).drop (c1 + c2)) = x := ⟨_, rfl⟩
  have hp : parseQ (sB s) = if n = 1 then (if e3 = 0 ∧ c1 + c2 + c3 = (sB s).length then some ⟨true, id, bS t⟩ else none) else if e2 = 0 ∧ c1 + c2 = (sB s).length ∧ n ≠ 0 then some ⟨false, id, ⟨#[]⟩⟩ else none := by
    unfold parseQ
    rw [h1]
    simp only
    rw [h2]
    simp only
    rw [h3]
  have H1 := Lib.hid h1
  have H2 := Lib.hid h2
  have H3 := Lib.hid h3
  have HP := Lib.hid hp
  clear hrow hb1 h1 h2 h3 hp
  go_enter Try.func13, Try.ntmps13
  go_wp2_with fail
  refine HN.out.mono ?_
  rintro e w3 ⟨r, g, rfl, D3, hr, hg, hb3⟩
  have HC3 := Lib.hid (HC1.out.call hb3)
  have BE3 := Lib.hid (BE1.out.below hb3)
  have HM := Lib.hid (num_any r g _ 0 0 2 w3 D3 (sB_lt s) hml)
  have hsz1 := HC1.out.size
  have hlt1 := BE1.out.lt
  clear HN D3 hb3 HC1 hconv
  go_wp2_with fail
  refine HM.out.mono ?_
  intro x w4 hpost
  obtain ⟨rfl, D4, c4⟩ := hpost.at (v := n) (c := c1) (e2 := e1) (by rw [List.drop_zero]; exact H1.out)
  rw [Nat.zero_add] at D4
  have HC4 := Lib.hid (HC3.out.step c4 (fun k hk e => by omega))
  have BE4 := Lib.hid (BE3.out.ch c4 (by omega))
  have HM2 := Lib.hid (num_any r g _ c1 e1 1099511627776 w4 D4 (sB_lt s) hml)
  clear HM hpost c4 HC3 D4 BE1 BE3
  by_cases hn : n = 1
  · have t0 : ((n : Int) == 1) = true := by simp [hn]
    have t1 : (n == 1) = true := by simp [hn]
    have hn0 : ((n : Int) == 0) = false := by simp [hn]
    have HP1 := HP.out
    rw [if_pos hn] at HP1
    have HP1 := Lib.hid HP1
    clear HP hn
    go_wp2_with fail
    refine HM2.out.mono ?_
    intro x w5 hpost
    obtain ⟨rfl, D5, c5⟩ := hpost.at H2.out
    have HC5 := Lib.hid (HC4.out.step c5 (fun k hk e => by omega))
    have BE5 := Lib.hid (BE4.out.ch c5 (by omega))
    obtain ⟨q1, q2⟩ := BE5.out.cells
    have HD5 := Lib.hid D5
    have HD6 := HD5.out.below (below1 w5 (.cells #[.bool true, .int .i64 (id : Nat), .string ⟨#[]⟩] 29))
    have HT := Lib.hid (rtext_any r g _ (c1 + c2) e2 900 _ HD6 (sB_lt s) hml)
    have BX := Lib.hid (Blk.new w5 #[.bool true, .int .i64 (id : Nat), .string ⟨#[]⟩] 29)
    have HC6 := Lib.hid (HC5.out.alloc (.cells #[.bool true, .int .i64 (id : Nat), .string ⟨#[]⟩] 29))
    have BE6 := Lib.hid (BE5.out.alloc (.cells #[.bool true, .int .i64 (id : Nat), .string ⟨#[]⟩] 29))
    have hw5 := HD5.out.lt
    clear HM2 hpost D5 c5 HC4 BE4 HD6 q1 q2
    go_wp2_with fail
    refine HT.out.mono ?_
    intro x w6 hpost
    obtain ⟨rfl, D6, c6⟩ := hpost.at H3.out
    have C7 := HC6.out.step c6 (fun k hk e => by omega)
    have BX6 := BX.out.ch c6 (by omega)
    have hsz5 := HC5.out.size
    have HC7 := Lib.hid (C7.set (p := ⟨w5.heap.size, 2, none⟩) (.inl hsz5) (.string (bS t)))
    have BE7 := Lib.hid ((BE6.out.ch c6 (by omega)).far (p := ⟨w5.heap.size, 2, none⟩) (by have := BE5.out.lt; simp; omega) (.string (bS t)))
    have BX7 := Lib.hid (show Blk _ w5.heap.size #[.bool true, .int .i64 (id : Nat), .string (bS t)] 29 from BX6.set 2 (.string (bS t)))
    have HE := Lib.hid (end_any r g _ (c1 + c2 + c3) e3 _ (D6.ch (Ch.set (S := fun k => k = w5.heap.size) (p := ⟨w5.heap.size, 2, none⟩) (Ch.refl _ w6) (.inr rfl) (.string (bS t))) (by omega) (by omega)))
    obtain ⟨q1, q2⟩ := (BE6.out.ch c6 (by omega)).cells
    obtain ⟨q3, q4⟩ := BX6.cells
    clear HT hpost c6 HC6 BE6 BX HC5 BE5 BX6 C7 D6 hsz5
    by_cases hok : e3 = 0 ∧ c1 + c2 + c3 = (sB s).length
    · have hv : parseQV (sB s) = .tuple #[evV ⟨true, id, bS t⟩, .bool true] := by unfold parseQV; rw [HP1.out, if_pos hok]
      have HE2 := HE.out
      rw [if_pos hok.1, if_pos hok.2] at HE2
      have HE2 := Lib.hid HE2
      have HV := Lib.hid hv
      clear hok hv HE
      go_wp2_with fail
      refine HE2.out.mono ?_
      rintro e w8 ⟨rfl, hb8⟩
      have BX8 := BX7.out.below hb8
      have BE8 := BE7.out.below hb8
      obtain ⟨q5, q6⟩ := BX8.cells
      obtain ⟨q7, q8⟩ := BE8.cells
      have HX8 := Lib.hid BX8
      have HC8 := Lib.hid (HC7.out.call hb8)
      have hbe8 := BE8.lt
      have HBE8 := Lib.hid BE8
      clear BX8 BE8 hb8 HE2 q1 q2 q3 q4
      go_wp2_with fail
      have C8 := HC8.out
      obtain ⟨z1, z2⟩ := (show Blk _ w.heap.size #[.bool true, (.int .i64 (id : Nat)), (.string (bS t))] 29 from ((HBE8.out.set 0 (.bool true)).set 1 (.int .i64 (id : Nat))).set 2 (.string (bS t))).cells
      exact bodyPost_ret (v := .tuple #[evV ⟨true, id, bS t⟩, .bool true]) (by simp [results, Try.results13, go_sem, evV, z1]) rfl ⟨by rw [HV.out], Ch.below (by (repeat (first | with_reducible assumption | with_reducible exact Ch.refl _ _ | with_reducible refine Ch.drew ?_ | with_reducible refine Ch.alloc ?_ _ | (with_reducible refine Ch.set' ?_ ?_; focus (first | (right; rfl; done) | (left; simp; done) | (left; simp; omega) | (left; omega) | (right; simp; done) | (right; simp; omega))))))⟩
    · have hv : parseQV (sB s) = .tuple #[.agg #[.bool false, .int .i64 0, .string ⟨#[]⟩], .bool false] := by unfold parseQV; rw [HP1.out, if_neg hok]
      have hno := hok
      obtain ⟨E, hE, hE2⟩ : ∃ E, E = (if e3 = 0 then (if c1 + c2 + c3 = (sB s).length then 0 else 22) else e3) ∧ (E == 0) = false := by
        refine ⟨_, rfl, ?_⟩
        split
        · rename_i h0
          rw [if_neg (fun h => hno ⟨h0, h⟩)]
          rfl
        · rename_i h0
          simpa using h0
      have hE3 : (E != 0) = true := by unfold bne; rw [hE2]; rfl
      have HE2 := HE.out
      rw [← hE] at HE2
      have HE2 := Lib.hid HE2
      have HV := Lib.hid hv
      clear hok hv hE HE hno
      go_wp2_with fail
      refine HE2.out.mono ?_
      rintro e w8 ⟨rfl, hb8⟩
      have BE8 := BE7.out.below hb8
      obtain ⟨q7, q8⟩ := BE8.cells
      have HC8 := Lib.hid (HC7.out.call hb8)
      have hbe8 := BE8.lt
      have HBE8 := Lib.hid BE8
      clear BE8 hb8 HE2 q1 q2 q3 q4
      go_wp2_with fail
      have C8 := HC8.out
      obtain ⟨z1, z2⟩ := (show Blk _ w.heap.size #[.bool false, (.int .i64 0), (.string ⟨#[]⟩)] 29 from ((HBE8.out.set 0 (.bool false)).set 1 (.int .i64 0)).set 2 (.string ⟨#[]⟩)).cells
      exact bodyPost_ret (v := .tuple #[.agg #[.bool false, .int .i64 0, .string ⟨#[]⟩], .bool false]) (by simp [results, Try.results13, go_sem, evV, z1]) rfl ⟨by rw [HV.out], Ch.below (by (repeat (first | with_reducible assumption | with_reducible exact Ch.refl _ _ | with_reducible refine Ch.drew ?_ | with_reducible refine Ch.alloc ?_ _ | (with_reducible refine Ch.set' ?_ ?_; focus (first | (right; rfl; done) | (left; simp; done) | (left; simp; omega) | (left; omega) | (right; simp; done) | (right; simp; omega))))))⟩
  · have t0 : ((n : Int) == 1) = false := by simp; omega
    have t1 : (n == 1) = false := by simpa using hn
    have HP1 := HP.out
    rw [if_neg hn] at HP1
    have HP1 := Lib.hid HP1
    clear HP
    go_wp2_with fail
    refine HM2.out.mono ?_
    intro x w5 hpost
    obtain ⟨rfl, D5, c5⟩ := hpost.at H2.out
    have HC5 := Lib.hid (HC4.out.step c5 (fun k hk e => by omega))
    have BE5 := Lib.hid (BE4.out.ch c5 (by omega))
    obtain ⟨q1, q2⟩ := BE5.out.cells
    have HD5 := Lib.hid D5
    have HE := Lib.hid (end_any r g _ (c1 + c2) e2 _ (HD5.out.below (below1 w5 (.cells #[.bool false, .int .i64 (id : Nat), .string ⟨#[]⟩] 29))))
    have BX7 := Lib.hid (Blk.new w5 #[.bool false, .int .i64 (id : Nat), .string ⟨#[]⟩] 29)
    have HC7 := Lib.hid (HC5.out.alloc (.cells #[.bool false, .int .i64 (id : Nat), .string ⟨#[]⟩] 29))
    have BE7 := Lib.hid (BE5.out.alloc (.cells #[.bool false, .int .i64 (id : Nat), .string ⟨#[]⟩] 29))
    obtain ⟨q3, q4⟩ := BE5.out.cells
    clear HM2 hpost D5 c5 HC4 BE4 HC5 BE5
    by_cases hok : e2 = 0 ∧ c1 + c2 = (sB s).length ∧ n ≠ 0
    · have hv : parseQV (sB s) = .tuple #[evV ⟨false, id, ⟨#[]⟩⟩, .bool true] := by unfold parseQV; rw [HP1.out, if_pos hok]
      have HE2 := HE.out
      rw [if_pos hok.1, if_pos hok.2.1] at HE2
      have HE2 := Lib.hid HE2
      have HV := Lib.hid hv
      have t9 : ((n : Int) == 0) = false := by have := hok.2.2; simp; omega
      clear hok hv HE
      go_wp2_with fail
      refine HE2.out.mono ?_
      rintro e w8 ⟨rfl, hb8⟩
      have BX8 := BX7.out.below hb8
      have BE8 := BE7.out.below hb8
      obtain ⟨q5, q6⟩ := BX8.cells
      obtain ⟨q7, q8⟩ := BE8.cells
      have HX8 := Lib.hid BX8
      have HC8 := Lib.hid (HC7.out.call hb8)
      have hbe8 := BE8.lt
      have HBE8 := Lib.hid BE8
      clear BX8 BE8 hb8 HE2 q1 q2 q3 q4
      go_wp2_with fail
      have C8 := HC8.out
      obtain ⟨z1, z2⟩ := (show Blk _ w.heap.size #[.bool false, (.int .i64 (id : Nat)), (.string ⟨#[]⟩)] 29 from ((HBE8.out.set 0 (.bool false)).set 1 (.int .i64 (id : Nat))).set 2 (.string ⟨#[]⟩)).cells
      exact bodyPost_ret (v := .tuple #[evV ⟨false, id, ⟨#[]⟩⟩, .bool true]) (by simp [results, Try.results13, go_sem, evV, z1]) rfl ⟨by rw [HV.out], Ch.below (by (repeat (first | with_reducible assumption | with_reducible exact Ch.refl _ _ | with_reducible refine Ch.drew ?_ | with_reducible refine Ch.alloc ?_ _ | (with_reducible refine Ch.set' ?_ ?_; focus (first | (right; rfl; done) | (left; simp; done) | (left; simp; omega) | (left; omega) | (right; simp; done) | (right; simp; omega))))))⟩
    · have hv : parseQV (sB s) = .tuple #[.agg #[.bool false, .int .i64 0, .string ⟨#[]⟩], .bool false] := by unfold parseQV; rw [HP1.out, if_neg hok]
      by_cases hno : e2 = 0 ∧ c1 + c2 = (sB s).length
      · have hn0 : n = 0 := Decidable.byContradiction (fun h => hok ⟨hno.1, hno.2, h⟩)
        have t9 : ((n : Int) == 0) = true := by simp [hn0]
        have HE2 := HE.out
        rw [if_pos hno.1, if_pos hno.2] at HE2
        have HE2 := Lib.hid HE2
        have HV := Lib.hid hv
        clear hok hv HE hno hn0
        go_wp2_with fail
        refine HE2.out.mono ?_
        rintro e w8 ⟨rfl, hb8⟩
        have BE8 := BE7.out.below hb8
        obtain ⟨q7, q8⟩ := BE8.cells
        have HC8 := Lib.hid (HC7.out.call hb8)
        have hbe8 := BE8.lt
        have HBE8 := Lib.hid BE8
        clear BE8 hb8 HE2 q1 q2 q3 q4
        go_wp2_with fail
        have C8 := HC8.out
        obtain ⟨z1, z2⟩ := (show Blk _ w.heap.size #[.bool false, (.int .i64 0), (.string ⟨#[]⟩)] 29 from ((HBE8.out.set 0 (.bool false)).set 1 (.int .i64 0)).set 2 (.string ⟨#[]⟩)).cells
        exact bodyPost_ret (v := .tuple #[.agg #[.bool false, .int .i64 0, .string ⟨#[]⟩], .bool false]) (by simp [results, Try.results13, go_sem, evV, z1]) rfl ⟨by rw [HV.out], Ch.below (by (repeat (first | with_reducible assumption | with_reducible exact Ch.refl _ _ | with_reducible refine Ch.drew ?_ | with_reducible refine Ch.alloc ?_ _ | (with_reducible refine Ch.set' ?_ ?_; focus (first | (right; rfl; done) | (left; simp; done) | (left; simp; omega) | (left; omega) | (right; simp; done) | (right; simp; omega))))))⟩
      · obtain ⟨E, hE, hE2⟩ : ∃ E, E = (if e2 = 0 then (if c1 + c2 = (sB s).length then 0 else 22) else e2) ∧ (E == 0) = false := by
          refine ⟨_, rfl, ?_⟩
          split
          · rename_i h0
            rw [if_neg (fun h => hno ⟨h0, h⟩)]
            rfl
          · rename_i h0
            simpa using h0
        have hE3 : (E != 0) = true := by unfold bne; rw [hE2]; rfl
        have HE2 := HE.out
        rw [← hE] at HE2
        have HE2 := Lib.hid HE2
        have HV := Lib.hid hv
        clear hok hv hE HE hno
        go_wp2_with fail
        refine HE2.out.mono ?_
        rintro e w8 ⟨rfl, hb8⟩
        have BE8 := BE7.out.below hb8
        obtain ⟨q7, q8⟩ := BE8.cells
        have HC8 := Lib.hid (HC7.out.call hb8)
        have hbe8 := BE8.lt
        have HBE8 := Lib.hid BE8
        clear BE8 hb8 HE2 q1 q2 q3 q4
        go_wp2_with fail
        have C8 := HC8.out
        obtain ⟨z1, z2⟩ := (show Blk _ w.heap.size #[.bool false, (.int .i64 0), (.string ⟨#[]⟩)] 29 from ((HBE8.out.set 0 (.bool false)).set 1 (.int .i64 0)).set 2 (.string ⟨#[]⟩)).cells
        exact bodyPost_ret (v := .tuple #[.agg #[.bool false, .int .i64 0, .string ⟨#[]⟩], .bool false]) (by simp [results, Try.results13, go_sem, evV, z1]) rfl ⟨by rw [HV.out], Ch.below (by (repeat (first | with_reducible assumption | with_reducible exact Ch.refl _ _ | with_reducible refine Ch.drew ?_ | with_reducible refine Ch.alloc ?_ _ | (with_reducible refine Ch.set' ?_ ?_; focus (first | (right; rfl; done) | (left; simp; done) | (left; simp; omega) | (left; omega) | (right; simp; done) | (right; simp; omega))))))⟩
end

/-! queue's state: New, Len, Had, Got, Least, Items. -/
section

open Go.RowKit

/-- A queue's state: how many data came, the items that are there, the pushes, the pops and what they got. -/
structure QSt where
  many : Nat
  l : List (ByteArray × Nat)
  pu : List (Int × Bool)
  po : List (Int × (ByteArray × Bool))
def itemO (x : ByteArray × Nat) : List Value := [.string x.1, .int .i64 (x.2 : Nat)]
def gotO (g : ByteArray × Bool) : Value := .agg #[.string g.1, .bool g.2]
theorem itemO_len (x : ByteArray × Nat) : (itemO x).length = 2 := rfl

/-- A queue in memory: its struct q, its maps b1 and b2, its items' own block vb (if any; not below base). -/
structure Qu (w : World) (q b1 b2 : Nat) (vb : Option Nat) (base : Nat) (st : QSt) : Prop where
  box : ∃ v, Blk w q #[.int .i64 (st.many : Nat), v, .map (some b1), .map (some b2)] 72 ∧ ORow 2 itemO w base v st.l ∧ v.ownBlock = vb
  mp : MapB w b1 (Value.int .i64) Value.bool st.pu
  mq : MapB w b2 (Value.int .i64) gotO st.po
  nv : vb ≠ some q ∧ vb ≠ some b1 ∧ vb ≠ some b2
  n1 : q ≠ b1 ∧ q ≠ b2 ∧ b1 ≠ b2
  hb : base ≤ q ∧ base ≤ b1 ∧ base ≤ b2
def Qf (q b1 b2 : Nat) (vb : Option Nat) (k : Nat) : Prop := k = q ∨ k = b1 ∨ k = b2 ∨ vb = some k

theorem Qu.ch {w w1 : World} {q b1 b2 : Nat} {vb : Option Nat} {base : Nat} {st : QSt} {S : Nat → Prop} (h : Qu w q b1 b2 vb base st) (hc : Ch S w w1) (hs : ∀ k, Qf q b1 b2 vb k → ¬ S k) : Qu w1 q b1 b2 vb base st := by
  obtain ⟨v, h1, h2, h3⟩ := h.box
  exact ⟨⟨v, h1.ch hc (hs _ (.inl rfl)), h2.ch hc (fun g e => hs g (.inr (.inr (.inr (h3 ▸ e))))), h3⟩, h.mp.ch hc (hs _ (.inr (.inl rfl))), h.mq.ch hc (hs _ (.inr (.inr (.inl rfl)))), h.nv, h.n1, h.hb⟩
theorem Qu.below {w w1 : World} {q b1 b2 : Nat} {vb : Option Nat} {base : Nat} {st : QSt} (h : Qu w q b1 b2 vb base st) (hb : Below w.heap.size w w1) : Qu w1 q b1 b2 vb base st := h.ch (Ch.of_below (fun _ => False) hb) (fun _ _ => id)
/-- All that a queue holds lies in memory, not below base. -/
theorem Qu.lt {w : World} {q b1 b2 : Nat} {vb : Option Nat} {base : Nat} {st : QSt} (h : Qu w q b1 b2 vb base st) {k : Nat} (hk : Qf q b1 b2 vb k) : base ≤ k ∧ k < w.heap.size := by
  obtain ⟨v, h1, h2, h3⟩ := h.box
  rcases hk with rfl | rfl | rfl | hk
  · exact ⟨h.hb.1, h1.lt⟩
  · exact ⟨h.hb.2.1, h.mp.lt⟩
  · exact ⟨h.hb.2.2, h.mq.lt⟩
  · exact h2.own (by rw [h3, hk])

def qst0 : QSt := ⟨0, [], [], []⟩
def NewQPost (w : World) (e : Ending) (w' : World) : Prop :=
  ∃ q b1 b2, e = .returned (.pointer (some ⟨q, 0, none⟩)) ∧ Qu w' q b1 b2 none w.heap.size qst0 ∧ Below w.heap.size w w'
set_option maxRecDepth 100000 in
theorem qnew_any (w : World) : Calls Try.prog 15 #[] w (NewQPost w) := by
  have hmm := @run_makeMap Try.prog
  go_enter Try.func15, Try.ntmps15
  go_wp2_with fail
  have B1 := (MapB.new (β := Bool) w (Value.int .i64) Value.bool).below (below1 _ (.map #[] 0))
  have B2 := (MapB.new (β := ByteArray × Bool) (w.alloc (.map #[] 0)) (Value.int .i64) gotO)
  rw [show (w.alloc (.map #[] 0)).heap.size = w.heap.size + 1 by simp] at B2
  have B3 := Blk.new ((w.alloc (.map #[] 0)).alloc (.map #[] 0)) #[.int .i64 0, .slice none 0 0, .map (some w.heap.size), .map (some (w.heap.size + 1))] 72
  rw [show ((w.alloc (.map #[] 0)).alloc (.map #[] 0)).heap.size = w.heap.size + 1 + 1 by simp] at B3
  go_ret
  refine ⟨_, _, _, rfl, ⟨⟨_, B3, ORow.nil _ _, rfl⟩, B1.below (below1 _ _), B2.below (below1 _ _), by simp, by omega, by omega⟩, Ch.below (by (repeat (first | with_reducible assumption | with_reducible exact Ch.refl _ _ | with_reducible refine Ch.drew ?_ | with_reducible refine Ch.alloc ?_ _ | (with_reducible refine Ch.set' ?_ ?_; focus (first | (right; rfl; done) | (left; simp; done) | (left; simp; omega) | (left; omega) | (right; simp; done) | (right; simp; omega))))))⟩

set_option maxRecDepth 100000 in
theorem qlen_any {q b1 b2 : Nat} {vb : Option Nat} {base : Nat} {st : QSt} (w : World) (h : Qu w q b1 b2 vb base st) :
    Calls Try.prog 25 #[.pointer (some ⟨q, 0, none⟩)] w fun e w' => e = .returned (.int .i64 (st.l.length : Nat)) ∧ Below w.heap.size w w' := by
  obtain ⟨v, h1, h2, h3⟩ := h.box
  obtain ⟨a, cap, rfl, _, _⟩ := h2.slice
  obtain ⟨q1, q2⟩ := h1.cells
  clear h h1 h2 h3
  go_enter Try.func25, Try.ntmps25
  go_wp2_with fail
  go_ret
  exact ⟨rfl, Ch.below (by (repeat (first | with_reducible assumption | with_reducible exact Ch.refl _ _ | with_reducible refine Ch.drew ?_ | with_reducible refine Ch.alloc ?_ _ | (with_reducible refine Ch.set' ?_ ?_; focus (first | (right; rfl; done) | (left; simp; done) | (left; simp; omega) | (left; omega) | (right; simp; done) | (right; simp; omega))))))⟩

theorem keyI : KeyT Try.prog 3 (Value.int .i64) := keyInt Try.underlying3
theorem zeroBool (w : World) : (zeroValue 4).run Try.prog w = .ok (.bool false) w := by kernel_rfl
theorem zeroGot (w : World) : (zeroValue 76).run Try.prog w = .ok (.agg #[.string ⟨#[]⟩, .bool false]) w := by kernel_rfl

def hadF (st : QSt) (id : Int) : Bool := (getA id st.pu).getD false
set_option maxRecDepth 100000 in
theorem qhad_any {q b1 b2 : Nat} {vb : Option Nat} {base : Nat} {st : QSt} (id : Int) (w : World) (h : Qu w q b1 b2 vb base st) :
    Calls Try.prog 26 #[.pointer (some ⟨q, 0, none⟩), .int .i64 id] w fun e w' => e = .returned (.bool (hadF st id)) ∧ Below w.heap.size w w' := by
  obtain ⟨v, h1, h2, h3⟩ := h.box
  obtain ⟨q1, q2⟩ := h1.cells
  have hlk := h.mp.look keyI Try.underlying68 (zeroBool w) id false
  have hlv : lookV Value.bool (.bool false) (getA id st.pu) false = .bool (hadF st id) := by unfold lookV hadF; cases getA id st.pu <;> rfl
  rw [hlv] at hlk
  clear h h1 h2 h3
  go_enter Try.func26, Try.ntmps26
  go_wp2_with fail
  go_ret
  exact ⟨rfl, Ch.below (by (repeat (first | with_reducible assumption | with_reducible exact Ch.refl _ _ | with_reducible refine Ch.drew ?_ | with_reducible refine Ch.alloc ?_ _ | (with_reducible refine Ch.set' ?_ ?_; focus (first | (right; rfl; done) | (left; simp; done) | (left; simp; omega) | (left; omega) | (right; simp; done) | (right; simp; omega))))))⟩

def gotV (st : QSt) (id : Int) : Value := match getA id st.po with
  | some g => .tuple #[.string g.1, .bool g.2, .bool true]
  | none => .tuple #[.string ⟨#[]⟩, .bool false, .bool false]
set_option maxRecDepth 100000 in
theorem qgot_any {q b1 b2 : Nat} {vb : Option Nat} {base : Nat} {st : QSt} (id : Int) (w : World) (h : Qu w q b1 b2 vb base st) :
    Calls Try.prog 18 #[.pointer (some ⟨q, 0, none⟩), .int .i64 id] w fun e w' => e = .returned (gotV st id) ∧ Below w.heap.size w w' := by
  obtain ⟨v, h1, h2, h3⟩ := h.box
  obtain ⟨q1, q2⟩ := h1.cells
  have hlk := h.mq.look keyI Try.underlying69 (zeroGot w) id true
  obtain ⟨s, o, i, hv, hlv⟩ : ∃ (s : ByteArray) (o i : Bool), gotV st id = .tuple #[.string s, .bool o, .bool i] ∧ lookV gotO (.agg #[.string ⟨#[]⟩, .bool false]) (getA id st.po) true = .tuple #[.agg #[.string s, .bool o], .bool i] := by
    unfold gotV
    cases getA id st.po with
    | none => exact ⟨_, _, _, rfl, rfl⟩
    | some g => exact ⟨_, _, _, rfl, rfl⟩
  rw [hlv] at hlk
  have HV := Lib.hid hv
  clear h h1 h2 h3 hv hlv
  go_enter Try.func18, Try.ntmps18
  go_wp2_with fail
  obtain ⟨z1, z2⟩ := (Blk.new w #[.string s, .bool o] 76).laterCells
  have HB := Lib.hid (below1 w (.cells #[.string s, .bool o] 76))
  refine wp_region_later (by kernel_rfl) (by kernel_rfl) ?_
  repeat (go_big_quiet_step (fail))
  refine wpQuiet_nil ?_
  rintro _ ⟨x, rfl⟩
  go_wp2_with fail
  exact bodyPost_ret (v := .tuple #[.string s, .bool o, .bool i]) (by simp [results, Try.results18, go_sem]) rfl ⟨by rw [HV.out], HB.out.trans (x.h.mono HB.out.size)⟩

def leastF (st : QSt) : Nat := match st.l with
  | [] => st.many
  | x :: _ => x.2
set_option maxRecDepth 100000 in
theorem qleast_any {q b1 b2 : Nat} {vb : Option Nat} {base : Nat} {st : QSt} (w : World) (h : Qu w q b1 b2 vb base st) :
    Calls Try.prog 21 #[.pointer (some ⟨q, 0, none⟩)] w fun e w' => e = .returned (.int .i64 (leastF st : Nat)) ∧ Below w.heap.size w w' := by
  obtain ⟨v, h1, h2, h3⟩ := h.box
  obtain ⟨q1, q2⟩ := h1.cells
  cases hl : st.l with
  | nil =>
    have hv : leastF st = st.many := by unfold leastF; rw [hl]
    obtain ⟨a, cap, rfl, _, _⟩ := h2.slice
    rw [hl] at q1
    rw [hv]
    clear h h1 h2 h3 hl hv
    go_enter Try.func21, Try.ntmps21
    go_wp2_with fail
    go_ret
    exact ⟨rfl, Ch.below (by (repeat (first | with_reducible assumption | with_reducible exact Ch.refl _ _ | with_reducible refine Ch.drew ?_ | with_reducible refine Ch.alloc ?_ _ | (with_reducible refine Ch.set' ?_ ?_; focus (first | (right; rfl; done) | (left; simp; done) | (left; simp; omega) | (left; omega) | (right; simp; done) | (right; simp; omega))))))⟩
  | cons x l =>
    have hv : leastF st = x.2 := by unfold leastF; rw [hl]
    obtain ⟨g, off, cap, rfl, hat⟩ := h2.at itemO_len (i := 0) (x := x) (by rw [hl]; rfl)
    have c1 : w.cell? ⟨g, off + 1, none⟩ = some (.int .i64 (x.2 : Nat)) := by simpa using hat 1 _ rfl
    have hpos : 0 < st.l.length := by rw [hl]; simp
    have hnl : ¬ st.l = [] := by rw [hl]; simp
    have hne : (st.l.length == 0) = false := by rw [hl]; simp
    have hne2 : ((st.l.length : Int) == 0) = false := by rw [hl]; simp; omega
    rw [hv]
    clear h h1 h2 h3 hl hv hat
    go_enter Try.func21, Try.ntmps21
    go_wp2_with fail
    go_ret
    exact ⟨rfl, Ch.below (by (repeat (first | with_reducible assumption | with_reducible exact Ch.refl _ _ | with_reducible refine Ch.drew ?_ | with_reducible refine Ch.alloc ?_ _ | (with_reducible refine Ch.set' ?_ ?_; focus (first | (right; rfl; done) | (left; simp; done) | (left; simp; omega) | (left; omega) | (right; simp; done) | (right; simp; omega))))))⟩

def itemsF (st : QSt) : List ByteArray := st.l.map (·.1)
def ItemsPost (st : QSt) (w : World) (e : Ending) (w' : World) : Prop := ∃ v, e = .returned v ∧ SRow w' w.heap.size v (itemsF st) ∧ Below w.heap.size w w'
/-- Items' loop. -/
def ItemsIn (w : World) (st : QSt) (v1 v2 : Value) (wi : World) : Prop :=
  ∃ j u, u = v1 ∧ j ≤ st.l.length ∧ v2 = .int .i64 (j : Nat) ∧ SRow wi w.heap.size u ((st.l.take j).map (·.1)) ∧ Ch (fun _ => False) w wi
set_option maxRecDepth 100000 in
set_option maxHeartbeats 4000000 in
theorem qitems_any {q b1 b2 : Nat} {vb : Option Nat} {base : Nat} {st : QSt} (w : World) (h : Qu w q b1 b2 vb base st) (hl : st.l.length ≤ 4194304) :
    Calls Try.prog 19 #[.pointer (some ⟨q, 0, none⟩)] w (ItemsPost st w) := by
  obtain ⟨v, h1, h2, h3⟩ := h.box
  obtain ⟨q1, q2⟩ := h1.cells
  have H2 := Lib.hid h2
  obtain ⟨a, cap, rfl, _, _⟩ := h2.slice
  clear h h1 h2 h3
  go_enter Try.func19, Try.ntmps19
  go_wp2_with fail
  go_loopw [3, 11] (fun v1 v2 wi => ItemsIn w st v1 v2 wi) (fun _ i _ => st.l.length - (intOf i).toNat)
  case atStart => exact ⟨0, _, rfl, Nat.zero_le _, rfl, SRow.nil _ _, Ch.refl _ _⟩
  case round =>
    obtain ⟨j, u, rfl, hj, rfl, R, C5⟩ := hrel
    have KR := Lib.hid R
    have KC := Lib.hid C5
    have hsz := C5.size
    clear R C5
    by_cases hlt : j < st.l.length
    · have ht : decide ((j : Int) < (st.l.length : Int)) = true := by simpa using hlt
      have ht2 : decide (st.l.length ≤ j) = false := by simpa using hlt
      obtain ⟨x, hp⟩ : ∃ x, st.l[j]? = some x := ⟨_, List.getElem?_eq_getElem hlt⟩
      obtain ⟨g, off, cap2, e, hat⟩ := (H2.out.ch KC.out (fun _ _ => id)).at itemO_len hp
      cases e
      have c0 : wr.cell? ⟨g, off + j * 2, none⟩ = some (.string x.1) := by simpa using hat 0 _ rfl
      have c1 : wr.cell? ⟨g, off + j * 2 + 1, none⟩ = some (.int .i64 (x.2 : Nat)) := by simpa [Nat.add_assoc] using hat 1 _ rfl
      obtain ⟨pr, hpr⟩ : ∃ pr, pr = (st.l.take j).map (·.1) := ⟨_, rfl⟩
      rw [← hpr] at KR
      have KR1 := Lib.hid ((KR.out.ch (Ch.of_below (fun _ => False) (below2 wr (.cells #[.string x.1, .int .i64 (x.2 : Nat)] 79) (.cells #[.string x.1] 9))) (fun _ _ => id)))
      have HT := Lib.hid (show pr ++ [x.1] = (st.l.take (j + 1)).map (·.1) by rw [hpr, List.take_add_one, hp]; simp)
      have hlen : pr.length ≤ 4194304 := by rw [hpr]; simp; omega
      clear hat KR hp hpr
      go_wp2_with (at_builtin; refine wpList_append_str rfl (.tmp 15) (.tmp 18) rfl rfl rfl KR1.out (Blk.new' (by simp)) ?c1 ?c2 ?_)
      any_goals (first | exact hlen | (simp; omega) | omega)
      intro g5 cap5 w5 hown5 hgrow5 hg5 hlt5
      rw [HT.out] at hown5
      have KR5 := Lib.hid hown5
      have KC5 := Lib.hid (((KC.out.call (below2 wr (.cells #[.string x.1, .int .i64 (x.2 : Nat)] 79) (.cells #[.string x.1] 9)))).step (Ch.of_grown hgrow5) (fun k hk e => by have := (KR1.out.own e.symm).1; omega))
      clear hown5 hgrow5 hg5 hlt5 KR1 KC c0 c1
      go_wp2_with fail
      go_roundw
      case rel => exact ⟨j + 1, _, rfl, hlt, by simp, KR5.out, KC5.out⟩
      case measure => simp only [intOf]; omega
    · have ht : decide ((j : Int) < (st.l.length : Int)) = false := by simpa using hlt
      have ht2 : decide (st.l.length ≤ j) = true := by simp; omega
      have KR1 := KR.out
      rw [show j = st.l.length by omega, List.take_length] at KR1
      have KR2 := Lib.hid KR1
      clear KR KR1
      go_wp2_with fail
      exact bodyPost_ret (v := u) (by simp [results, Try.results19, go_sem]) rfl ⟨u, rfl, KR2.out, KC.out.below⟩
end

/-! queue's Add. -/
section

open Go.RowKit

def pushQ (st : QSt) (e : Ev) : QSt × Bool :=
  if hadF st (e.id : Int) = true then (st, false) else ({ st with pu := putA (e.id : Int) true st.pu, l := st.l ++ [(e.item, st.many - 1)] }, true)
def popQ (st : QSt) (e : Ev) : QSt × Bool :=
  if (getA (e.id : Int) st.po).isSome = true then (st, false) else match st.l with
    | [] => ({ st with po := putA (e.id : Int) (⟨#[]⟩, false) st.po }, true)
    | x :: l => ({ st with l := l, po := putA (e.id : Int) (x.1, true) st.po }, true)
def addQ (st : QSt) (l : List Nat) : QSt × Bool :=
  match parseQ l with
  | none => ({ st with many := st.many + 1 }, false)
  | some e => if e.push = true then pushQ { st with many := st.many + 1 } e else popQ { st with many := st.many + 1 } e

/-- What a step of the queue leaves. -/
def QPost (q b1 b2 : Nat) (vb : Option Nat) (base : Nat) (r : QSt × Bool) (w : World) (e : Ending) (w' : World) : Prop :=
  ∃ vb', e = .returned (.bool r.2) ∧ Qu w' q b1 b2 vb' base r.1 ∧ (∀ g, vb' = some g → vb = some g ∨ w.heap.size ≤ g) ∧ Ch (Qf q b1 b2 vb) w w'

theorem Qu.putPu {w w1 : World} {q b1 b2 : Nat} {vb : Option Nat} {base : Nat} {st : QSt} {pu : List (Int × Bool)} (h : Qu w q b1 b2 vb base st) (hm : MapB w1 b1 (Value.int .i64) Value.bool pu) (hc : Ch (· = b1) w w1) : Qu w1 q b1 b2 vb base { st with pu := pu } := by
  obtain ⟨v, h1, h2, h3⟩ := h.box
  have n1 := h.n1
  have nv := h.nv
  exact ⟨⟨v, h1.ch hc n1.1, h2.ch hc (fun g e => by rw [h3] at e; intro e2; exact nv.2.1 (by rw [e, e2])), h3⟩, hm, h.mq.ch hc (fun e => n1.2.2 e.symm), h.nv, h.n1, h.hb⟩
theorem Qu.putPo {w w1 : World} {q b1 b2 : Nat} {vb : Option Nat} {base : Nat} {st : QSt} {po : List (Int × (ByteArray × Bool))} (h : Qu w q b1 b2 vb base st) (hm : MapB w1 b2 (Value.int .i64) gotO po) (hc : Ch (· = b2) w w1) : Qu w1 q b1 b2 vb base { st with po := po } := by
  obtain ⟨v, h1, h2, h3⟩ := h.box
  have n1 := h.n1
  have nv := h.nv
  exact ⟨⟨v, h1.ch hc n1.2.1, h2.ch hc (fun g e => by rw [h3] at e; intro e2; exact nv.2.2 (by rw [e, e2])), h3⟩, h.mp.ch hc n1.2.2, hm, h.nv, h.n1, h.hb⟩
theorem infoItem : (Try.prog.info? 79).map (fun i => (i.zero, i.size, i.bytes)) = some (some (.agg #[.string ⟨#[]⟩, .int .i64 0]), 2, 24) := by kernel_rfl

theorem itemO_one (x : ByteArray × Nat) : ∀ u ∈ itemO x, u.oneCell' = true := by
  intro u hu
  simp [itemO] at hu
  rcases hu with rfl | rfl <;> rfl
/-- One item is appended. -/
theorem step_append_item {w : World} {ops : Array Oper} {o : Oper} {a : Act} {K : Act → World → Prop} {Q : Exit → Act → World → Prop} {E : Prop} (hgd : o.guard = none) (s y : Operand)
    (ho : o.op = .call { callee := .builtin .append, args := #[s, y], argTypes := #[70, 70] }) {base p : Nat} {v : Value} {xs : List (ByteArray × Nat)} {x : ByteArray × Nat} (he : a.eval s = v) (hy : a.eval y = .slice (some ⟨p, 0, none⟩) 1 1)
    (hv : ORow 2 itemO w base v xs) (hp : Blk w p #[.string x.1, .int .i64 (x.2 : Nat)] 79) (hbase : base ≤ w.heap.size) (hl : xs.length ≤ 4194304)
    (h : ∀ g off cap w', ORow 2 itemO w' base (.slice (some ⟨g, off, none⟩) (xs.length + 1) cap) (xs ++ [x]) → w.grownBy w' v.ownBlock → (v.ownBlock = some g ∨ w.heap.size ≤ g) → K (a.put o.dst (.slice (some ⟨g, off, none⟩) (xs.length + 1) cap)) w') :
    if Region.wanted o (yielded ops a.tmps) = true then Oper.wp Try.prog o a w K Q else E := by
  obtain ⟨i0, hinfo, hz0, hz1, hz2⟩ := info_parts infoItem
  refine step_append_off itemO_len itemO_one (by decide) hgd s y 70 ho hv Try.underlying70 hinfo hz0 hz1 hz2 rfl he hy (x := x) ?_ hbase (by unfold maxLen; omega) (by omega) h
  intro j u hu
  rw [hp.cell]
  simpa [itemO] using hu
/-- pushed's end: the item is appended. -/
theorem pushed_fin {q b1 b2 : Nat} {vb : Option Nat} {base : Nat} {st : QSt} {x : ByteArray × Nat} {w w3 wa w5 : World} {v : Value} {g off cap : Nat} (HQ : Qu w3 q b1 b2 vb base st) (HC : Ch (Qf q b1 b2 vb) w w3) (hb : Blk w3 q #[.int .i64 (st.many : Nat), v, .map (some b1), .map (some b2)] 72) (hv : v.ownBlock = vb)
    (ha : Ch (fun _ => False) w3 wa) (hown : ORow 2 itemO w5 base (.slice (some ⟨g, off, none⟩) (st.l.length + 1) cap) (st.l ++ [x])) (hgrow : wa.grownBy w5 v.ownBlock) (hg : v.ownBlock = some g ∨ wa.heap.size ≤ g) :
    QPost q b1 b2 vb base ({ st with l := st.l ++ [x] }, true) w (.returned (.bool true)) (w5.setCell ⟨q, 1, none⟩ (.slice (some ⟨g, off, none⟩) (st.l.length + 1) cap)) := by
  have l1 := fun k h => (HQ.lt (k := k) h).2
  have hsz := ha.size
  have hnew : ∀ k, Qf q b1 b2 none k → g ≠ k := by
    intro k hk e
    subst e
    rcases hg with h | h
    · have nv := HQ.nv
      rcases hk with rfl | rfl | rfl | hk
      · exact nv.1 (by rw [← hv, h])
      · exact nv.2.1 (by rw [← hv, h])
      · exact nv.2.2 (by rw [← hv, h])
      · cases hk
    · have := l1 g (by rcases hk with h | h | h | h; exact .inl h; exact .inr (.inl h); exact .inr (.inr (.inl h)); cases h)
      omega
  have cg : Ch (fun k => vb = some k) w3 w5 := (ha.mono (fun _ h => h.elim)).trans ((Ch.of_grown hgrow).mono (fun k e => by rw [← hv]; exact e.symm))
  have cg2 : Ch (fun k => vb = some k ∨ k = q) w3 (w5.setCell ⟨q, 1, none⟩ (.slice (some ⟨g, off, none⟩) (st.l.length + 1) cap)) := (cg.mono (fun k e => .inl e)).set (p := ⟨q, 1, none⟩) (.inr (.inr rfl)) _
  have nv := HQ.nv
  have n1 := HQ.n1
  refine ⟨some g, rfl, ⟨⟨.slice (some ⟨g, off, none⟩) (st.l.length + 1) cap, ?_, ?_, rfl⟩, ?_, ?_, ⟨fun e => hnew q (.inl rfl) (by simpa using e), fun e => hnew b1 (.inr (.inl rfl)) (by simpa using e), fun e => hnew b2 (.inr (.inr (.inl rfl))) (by simpa using e)⟩, HQ.n1, HQ.hb⟩, ?_, ?_⟩
  · have := (hb.ch cg nv.1).set 1 (.slice (some ⟨g, off, none⟩) (st.l.length + 1) cap)
    simpa using this
  · have h1 := hown.ch (S := fun k => k = q) (Ch.set (S := fun k => k = q) (p := ⟨q, 1, none⟩) (Ch.refl _ w5) (.inr rfl) (.slice (some ⟨g, off, none⟩) (st.l.length + 1) cap)) (fun k e => by simp [Value.ownBlock] at e; subst e; exact hnew q (.inl rfl))
    simpa using h1
  · exact HQ.mp.ch cg2 (by rintro (e | e); exact nv.2.1 e; exact n1.1 e.symm)
  · exact HQ.mq.ch cg2 (by rintro (e | e); exact nv.2.2 e; exact n1.2.1 e.symm)
  · intro k e
    obtain rfl : g = k := by simpa using e
    rcases hg with h | h
    · exact .inl (by rw [← hv, h])
    · right
      have := HC.size
      omega
  · exact HC.trans (cg2.mono (fun k e => by rcases e with e | e; exact .inr (.inr (.inr e)); exact .inl e))

set_option maxRecDepth 100000 in
set_option maxHeartbeats 4000000 in
theorem pushed_any {q b1 b2 : Nat} {vb : Option Nat} {base : Nat} {st : QSt} (e : Ev) (w : World) (h : Qu w q b1 b2 vb base st) (hl : st.l.length ≤ 4194304) (hm : 1 ≤ st.many ∧ st.many ≤ 4194304) (hbase : base ≤ w.heap.size) :
    Calls Try.prog 39 #[.pointer (some ⟨q, 0, none⟩), evV e] w (QPost q b1 b2 vb base (pushQ st e) w) := by
  have hb0 := below1 w (.cells #[.bool e.push, .int .i64 (e.id : Nat), .string e.item] 29)
  have H0 := h.below hb0
  obtain ⟨v, h1, h2, h3⟩ := H0.box
  obtain ⟨q1, q2⟩ := h1.laterCells
  obtain ⟨q3, q4⟩ := (Blk.new w #[.bool e.push, .int .i64 (e.id : Nat), .string e.item] 29).laterCells
  have hlk := fun x : Later (w.alloc (.cells #[.bool e.push, .int .i64 (e.id : Nat), .string e.item] 29)) => (H0.mp.below x.h).look keyI Try.underlying68 (zeroBool _) (e.id : Int) false
  have hlv : lookV Value.bool (.bool false) (getA (e.id : Int) st.pu) false = .bool (hadF st e.id) := by unfold lookV hadF; cases getA (e.id : Int) st.pu <;> rfl
  rw [hlv] at hlk
  have HQ := Lib.hid H0
  have HQ1b := Lib.hid h
  have HBE := Lib.hid (Blk.new w #[.bool e.push, .int .i64 (e.id : Nat), .string e.item] 29)
  unfold evV
  by_cases hh : hadF st (e.id : Int) = true
  · have hp : pushQ st e = (st, false) := by unfold pushQ; rw [if_pos hh]
    rw [hp]
    rw [hh] at hlk
    have HB0 := Lib.hid hb0
    clear hp h1 h2 h3 h hlv H0 hb0
    go_enter Try.func39, Try.ntmps39
    go_wp2_with fail
    refine wp_region_later (by kernel_rfl) (by kernel_rfl) ?_
    repeat (go_big_quiet_step (fail))
    refine wpQuiet_nil ?_
    rintro _ ⟨x, rfl⟩
    go_wp2_with fail
    exact bodyPost_ret (v := .bool false) (by simp [results, Try.results39, go_sem]) rfl ⟨vb, rfl, HQ.out.below x.h, fun g e => .inl e, (Ch.of_below _ HB0.out).call x.h⟩
  · have hp : pushQ st e = ({ st with pu := putA (e.id : Int) true st.pu, l := st.l ++ [(e.item, st.many - 1)] }, true) := by unfold pushQ; rw [if_neg hh]
    rw [hp]
    have hh2 : hadF st (e.id : Int) = false := by simpa using hh
    rw [hh2] at hlk
    have HB0 := Lib.hid hb0
    clear hp h hlv hh h1 h2 h3 H0 hb0
    go_enter Try.func39, Try.ntmps39
    go_wp2_with fail
    refine wp_region_later (by kernel_rfl) (by kernel_rfl) ?_
    repeat (go_big_quiet_step (fail))
    refine wpQuiet_nil ?_
    rintro _ ⟨x, rfl⟩
    have HQ1 := Lib.hid (HQ.out.below x.h)
    have HE1 := Lib.hid (HBE.out.below x.h)
    have HC1 := Lib.hid ((Ch.of_below (Qf q b1 b2 vb) HB0.out).call x.h)
    obtain ⟨w1, hw1⟩ : ∃ w1, w1 = x.w := ⟨_, rfl⟩
    rw [← hw1] at HQ1 HE1 HC1 ⊢
    clear hw1 hlk q1 q2 q3 q4 HQ HBE
    obtain ⟨v, h1, h2, h3⟩ := HQ1.out.box
    obtain ⟨q1, q2⟩ := h1.laterCells
    obtain ⟨q3, q4⟩ := HE1.out.laterCells
    have hc1 := HC1.out.size
    clear h1 h2 h3
    go_wp2_with fail
    refine wp_region_quiet_tail 6 (C := fun w' => ∃ x : Later w1, w' = x.w) (by kernel_rfl) (by kernel_rfl) ⟨⟨w1.drew, (Below.refl _ _).drew⟩, rfl⟩ ?_
    simp only [List.take_succ_cons, List.take_zero, List.drop_succ_cons, List.drop_zero]
    repeat (go_big_quiet_step (fail))
    refine wpQuiet_nil ?_
    rintro _ ⟨x, rfl⟩
    have HQ2 := Lib.hid (HQ1.out.below x.h)
    have HE2 := Lib.hid (HE1.out.below x.h)
    have HC2 := Lib.hid (HC1.out.call x.h)
    obtain ⟨w2, hw2⟩ : ∃ w2, w2 = x.w := ⟨_, rfl⟩
    rw [← hw2] at HQ2 HE2 HC2 ⊢
    clear hw2 q1 q2 q3 q4 HQ1 HE1 HC1
    go_wp2_with (at_mapUpdate; refine wpList_store_map rfl _ _ _ 68 rfl keyI Try.underlying68 rfl HQ2.out.mp (e.id : Int) true rfl rfl ?_)
    intro w3 hm3 hc3
    have HQ3 := Lib.hid (HQ2.out.putPu hm3 hc3)
    have HE3 := Lib.hid (HE2.out.ch hc3 (by have := (HQ1b.out.lt (k := b1) (.inr (.inl rfl))).2; omega))
    have HC3 := Lib.hid (HC2.out.step hc3 (fun k _ e => .inr (.inl e)))
    clear hm3 hc3 HQ2 HE2 HC2
    obtain ⟨v, h1, h2, h3⟩ := HQ3.out.box
    obtain ⟨q1, q2⟩ := h1.cells
    obtain ⟨q3, q4⟩ := HE3.out.cells
    have hc3 := HC3.out.size
    have HG1 := Lib.hid h1
    have HOW := Lib.hid (fun w' (hc : Ch (fun _ => False) w3 w') => h2.ch hc (fun _ _ => id))
    have HV := Lib.hid h3
    have HNQ := Lib.hid (show ¬ some q = v.ownBlock by rw [h3]; exact fun e => HQ3.out.nv.1 e.symm)
    have hbase3 : base ≤ w3.heap.size := by omega
    have hq3 := h1.lt
    have he3 := HE3.out.lt
    have hmw : wrap64 ((st.many : Int) - 1) = ((st.many - 1 : Nat) : Int) := by rw [IntWalk.wrap64_in _ (by omega)]; omega
    have hmw2 : IntKind.i64.wrap ((st.many : Int) - 1) = ((st.many - 1 : Nat) : Int) := by rw [IntWalk.i64_in _ (by omega)]; omega
    clear h1 h2 h3
    go_wp2_with fail
    go_region_law (refine step_append_item (x := (e.item, st.many - 1)) rfl (.tmp 22) (.tmp 31) rfl rfl rfl (HOW.out _ (by (repeat (first | with_reducible assumption | with_reducible exact Ch.refl _ _ | with_reducible refine Ch.drew ?_ | with_reducible refine Ch.alloc ?_ _ | (with_reducible refine Ch.set' ?_ ?_; focus (first | (right; rfl; done) | (left; simp; done) | (left; simp; omega) | (left; omega) | (right; simp; done) | (right; simp; omega))))))) (by (repeat (first | (with_reducible refine Blk.new' ?_; first | rfl | (simp; done) | (simp; omega)) | with_reducible refine Blk.drew ?_ | with_reducible refine Blk.alloc ?_ _))) (by simp; omega) hl ?_
                   intro g5 off5 cap5 w5 hown5 hgrow5 hg5
                   obtain ⟨z1, z2⟩ := ((HG1.out.alloc (.cells #[.string e.item, .int .i64 ((st.many - 1 : Nat) : Int)] 79)).drew.ch (Ch.of_grown hgrow5) HNQ.out).cells)
    all_goals
      go_wp2_with fail
      exact bodyPost_ret (v := .bool true) (by simp [results, Try.results39, go_sem]) rfl (pushed_fin HQ3.out HC3.out HG1.out HV.out (((Ch.refl (fun _ => False) w3).alloc (.cells #[.string e.item, .int .i64 ((st.many - 1 : Nat) : Int)] 79)).drew) hown5 hgrow5 hg5)
end

/-! queue's popped and Add. -/
section

open Go.RowKit

/-- What a pop takes. -/
def pullF (st : QSt) : QSt × (ByteArray × Bool) := match st.l with
  | [] => (st, (⟨#[]⟩, false))
  | x :: l => ({ st with l := l }, (x.1, true))
def PullPost (q b1 b2 : Nat) (vb : Option Nat) (base : Nat) (r : QSt × (ByteArray × Bool)) (w : World) (e : Ending) (w' : World) : Prop :=
  e = .returned (gotO r.2) ∧ Qu w' q b1 b2 vb base r.1 ∧ Ch (· = q) w w'

/-- The row is cut: what the store leaves. -/
theorem pull_fin {q b1 b2 : Nat} {vb : Option Nat} {base : Nat} {st : QSt} {l : List (ByteArray × Nat)} {w w1 : World} {v v' : Value} (h : Qu w q b1 b2 vb base st) (hb : Blk w q #[.int .i64 (st.many : Nat), v, .map (some b1), .map (some b2)] 72) (hc : Below w.heap.size w w1) (hv : v'.ownBlock = vb) (hl : ORow 2 itemO w base v' l) :
    Qu (w1.setCell ⟨q, 1, none⟩ v') q b1 b2 vb base { st with l := l } := by
  have h1 := h.below hc
  have nv := h.nv
  have n1 := h.n1
  have hs : Ch (· = q) w1 (w1.setCell ⟨q, 1, none⟩ v') := Ch.set (S := (· = q)) (p := ⟨q, 1, none⟩) (Ch.refl _ w1) (.inr rfl) v'
  refine ⟨⟨v', ?_, (hl.below hc).ch hs (fun g e => by rw [hv] at e; intro e2; exact nv.1 (by rw [e, e2])), hv⟩, h1.mp.ch hs (fun e => n1.1 e.symm), h1.mq.ch hs (fun e => n1.2.1 e.symm), nv, n1, h.hb⟩
  have := (hb.below hc).set 1 v'
  simpa using this

theorem pull_tail {q b1 b2 : Nat} {vb : Option Nat} {base : Nat} {st : QSt} {w w1 : World} {u1 u2 : Value} (h0 : ∀ {k : Nat}, Qf q b1 b2 vb k → base ≤ k ∧ k < w.heap.size) (h : Qu w1 q b1 b2 vb base st) :
    Qu ((w1.setCell ⟨w.heap.size, 0, none⟩ u1).setCell ⟨w.heap.size, 1, none⟩ u2) q b1 b2 vb base st :=
  (h.ch (S := (· = w.heap.size)) (((Ch.refl (· = w.heap.size) w1).set (p := ⟨w.heap.size, 0, none⟩) (.inr rfl) u1).set (p := ⟨w.heap.size, 1, none⟩) (.inr rfl) u2) (fun k hk e => by have := (h0 hk).2; omega))

set_option maxRecDepth 100000 in
set_option maxHeartbeats 4000000 in
theorem pull_any {q b1 b2 : Nat} {vb : Option Nat} {base : Nat} {st : QSt} (b : Nat) (w : World) (h : Qu w q b1 b2 vb base st) (hb : Blk w b #[.pointer (some ⟨q, 0, none⟩)] 36) (hbq : b ≠ q) :
    Calls Try.prog 48 #[.pointer (some ⟨b, 0, none⟩)] w (PullPost q b1 b2 vb base (pullF st) w) := by
  obtain ⟨v, h1, h2, h3⟩ := h.box
  obtain ⟨q1, q2⟩ := h1.cells
  obtain ⟨q3, q4⟩ := hb.cells
  have hblt := hb.lt
  have hqlt := h1.lt
  have HQ := Lib.hid h
  have HB := Lib.hid h1
  have HBB := Lib.hid hb
  cases hl : st.l with
  | nil =>
    have hv : pullF st = (st, (⟨#[]⟩, false)) := by unfold pullF; rw [hl]
    obtain ⟨a, cap, rfl, _, _⟩ := h2.slice
    rw [hl] at q1
    rw [hv]
    clear h h1 h2 h3 hl hv hb
    go_enter Try.func48, Try.ntmps48
    go_wp2_with fail
    exact bodyPost_ret (v := gotO (⟨#[]⟩, false)) (by simp [results, Try.results48, go_sem, gotO]) rfl ⟨rfl, HQ.out.below (below1 _ _), Ch.of_below _ (below1 _ _)⟩
  | cons x l =>
    have hv : pullF st = ({ st with l := l }, (x.1, true)) := by unfold pullF; rw [hl]
    have h2c := h2
    rw [hl] at h2c
    obtain ⟨g, off, cap, rfl, hcut⟩ := h2c.cut itemO_len
    obtain ⟨g', off', cap', e', hat⟩ := h2.at itemO_len (i := 0) (x := x) (by rw [hl]; rfl)
    injection e' with a1 a2 a3
    injection a1 with a1
    injection a1 with a4 a5 a6
    subst a4 a5
    have hglt := (h2.own (g := g) rfl).2
    have c0 : w.cell? ⟨g, off, none⟩ = some (.string x.1) := by simpa using hat 0 _ rfl
    have c1 : w.cell? ⟨g, off + 1, none⟩ = some (.int .i64 (x.2 : Nat)) := by simpa using hat 1 _ rfl
    have HC := Lib.hid hcut
    have H3 := Lib.hid h3
    rw [hv]
    clear h h1 h2 h3 hl hv hat h2c hcut hb a2 a3
    by_cases hcap : cap = 0
    · subst hcap
      rw [Nat.zero_add] at q1
      have HC := Lib.hid (show ORow 2 itemO w base (.slice (some ⟨g, off, none⟩) l.length 0) l from by have := HC.out; rwa [if_pos rfl] at this)
      go_enter Try.func48, Try.ntmps48
      go_wp2_with fail
      obtain ⟨z1, z2⟩ := (HB.out.below (below2 w (.cells #[.string ⟨#[]⟩, .bool false] 76) (.cells #[.string x.1, .int .i64 (x.2 : Nat)] 79))).laterCells
      obtain ⟨z3, z4⟩ := (HBB.out.below (below2 w (.cells #[.string ⟨#[]⟩, .bool false] 76) (.cells #[.string x.1, .int .i64 (x.2 : Nat)] 79))).laterCells
      have HX := Lib.hid (Blk.new (w.alloc (.cells #[.string ⟨#[]⟩, .bool false] 76)) #[.string x.1, .int .i64 (x.2 : Nat)] 79)
      rw [show (w.alloc (.cells #[.string ⟨#[]⟩, .bool false] 76)).heap.size = w.heap.size + 1 by simp] at HX
      have HG := Lib.hid ((Blk.new w #[.string ⟨#[]⟩, .bool false] 76).alloc (.cells #[.string x.1, .int .i64 (x.2 : Nat)] 79))
      have HB2 := Lib.hid (below2 w (.cells #[.string ⟨#[]⟩, .bool false] 76) (.cells #[.string x.1, .int .i64 (x.2 : Nat)] 79))
      obtain ⟨w1, hw1⟩ : ∃ w1, w1 = (w.alloc (.cells #[.string ⟨#[]⟩, .bool false] 76)).alloc (.cells #[.string x.1, .int .i64 (x.2 : Nat)] 79) := ⟨_, rfl⟩
      rw [← hw1] at z1 z2 z3 z4 HX HG HB2 ⊢
      clear hw1
      refine wp_region_quiet_tail 6 (C := fun w' => ∃ x : Later w1, w' = x.w) (by kernel_rfl) (by kernel_rfl) ⟨⟨w1.drew, (Below.refl _ _).drew⟩, rfl⟩ ?_
      simp only [List.take_succ_cons, List.take_zero, List.drop_succ_cons, List.drop_zero]
      repeat (go_big_quiet_step (fail))
      refine wpQuiet_nil ?_
      rintro _ ⟨y, rfl⟩
      have HB3 := Lib.hid (HB2.out.trans (y.h.mono HB2.out.size))
      have HX3 := Lib.hid (HX.out.below y.h)
      have HG3 := Lib.hid (HG.out.below y.h)
      obtain ⟨w2, hw2⟩ : ∃ w2, w2 = y.w := ⟨_, rfl⟩
      rw [← hw2] at HB3 HX3 HG3 ⊢
      clear hw2 z1 z2 z3 z4 HX HB2 HG
      obtain ⟨z1, z2⟩ := (HB.out.below HB3.out).cells
      obtain ⟨z5, z6⟩ := HX3.out.cells
      have BG := HG3.out
      obtain ⟨z7, z8⟩ := BG.cells
      have hne : ¬ (w.heap.size + 1 = q) := by omega
      have hne2 : ¬ (w.heap.size = q) := by omega
      clear BG
      go_wp2_with fail
      obtain ⟨y1, y2⟩ := (show Blk _ w.heap.size #[.string x.1, .bool true] 76 from (((HG3.out.far (p := ⟨q, 1, none⟩) (by simpa using hne2) (.slice (some ⟨g, off, none⟩) l.length 0)).set 0 (.string x.1)).set 1 (.bool true))).cells
      have HQF := pull_fin HQ.out HB.out HB3.out (show (Value.slice (some ⟨g, off, none⟩) l.length 0).ownBlock = vb from H3.out) HC.out
      have HCF := Ch.set (S := (· = q)) (p := ⟨q, 1, none⟩) (Ch.of_below (· = q) HB3.out) (.inr rfl) (.slice (some ⟨g, off, none⟩) l.length 0)
      refine bodyPost_ret (v := gotO (x.1, true)) (by simp [results, Try.results48, go_sem, gotO, y1]) rfl ⟨rfl, pull_tail HQ.out.lt HQF, (HCF.set (p := ⟨w.heap.size, 0, none⟩) (.inl (Nat.le_refl _)) _).set (p := ⟨w.heap.size, 1, none⟩) (.inl (Nat.le_refl _)) _⟩
    · have HC := Lib.hid (show ORow 2 itemO w base (.slice (some ⟨g, off + 2, none⟩) l.length cap) l from by have := HC.out; rwa [if_neg hcap] at this)
      go_enter Try.func48, Try.ntmps48
      go_wp2_with fail
      obtain ⟨z1, z2⟩ := (HB.out.below (below2 w (.cells #[.string ⟨#[]⟩, .bool false] 76) (.cells #[.string x.1, .int .i64 (x.2 : Nat)] 79))).laterCells
      obtain ⟨z3, z4⟩ := (HBB.out.below (below2 w (.cells #[.string ⟨#[]⟩, .bool false] 76) (.cells #[.string x.1, .int .i64 (x.2 : Nat)] 79))).laterCells
      have HX := Lib.hid (Blk.new (w.alloc (.cells #[.string ⟨#[]⟩, .bool false] 76)) #[.string x.1, .int .i64 (x.2 : Nat)] 79)
      rw [show (w.alloc (.cells #[.string ⟨#[]⟩, .bool false] 76)).heap.size = w.heap.size + 1 by simp] at HX
      have HG := Lib.hid ((Blk.new w #[.string ⟨#[]⟩, .bool false] 76).alloc (.cells #[.string x.1, .int .i64 (x.2 : Nat)] 79))
      have HB2 := Lib.hid (below2 w (.cells #[.string ⟨#[]⟩, .bool false] 76) (.cells #[.string x.1, .int .i64 (x.2 : Nat)] 79))
      obtain ⟨w1, hw1⟩ : ∃ w1, w1 = (w.alloc (.cells #[.string ⟨#[]⟩, .bool false] 76)).alloc (.cells #[.string x.1, .int .i64 (x.2 : Nat)] 79) := ⟨_, rfl⟩
      rw [← hw1] at z1 z2 z3 z4 HX HG HB2 ⊢
      clear hw1
      refine wp_region_quiet_tail 6 (C := fun w' => ∃ x : Later w1, w' = x.w) (by kernel_rfl) (by kernel_rfl) ⟨⟨w1.drew, (Below.refl _ _).drew⟩, rfl⟩ ?_
      simp only [List.take_succ_cons, List.take_zero, List.drop_succ_cons, List.drop_zero]
      repeat (go_big_quiet_step (fail))
      refine wpQuiet_nil ?_
      rintro _ ⟨y, rfl⟩
      have HB3 := Lib.hid (HB2.out.trans (y.h.mono HB2.out.size))
      have HX3 := Lib.hid (HX.out.below y.h)
      have HG3 := Lib.hid (HG.out.below y.h)
      obtain ⟨w2, hw2⟩ : ∃ w2, w2 = y.w := ⟨_, rfl⟩
      rw [← hw2] at HB3 HX3 HG3 ⊢
      clear hw2 z1 z2 z3 z4 HX HB2 HG
      obtain ⟨z1, z2⟩ := (HB.out.below HB3.out).cells
      obtain ⟨z5, z6⟩ := HX3.out.cells
      have BG := HG3.out
      obtain ⟨z7, z8⟩ := BG.cells
      have hne : ¬ (w.heap.size + 1 = q) := by omega
      have hne2 : ¬ (w.heap.size = q) := by omega
      clear BG
      go_wp2_with fail
      obtain ⟨y1, y2⟩ := (show Blk _ w.heap.size #[.string x.1, .bool true] 76 from (((HG3.out.far (p := ⟨q, 1, none⟩) (by simpa using hne2) (.slice (some ⟨g, off + 2, none⟩) l.length cap)).set 0 (.string x.1)).set 1 (.bool true))).cells
      have HQF := pull_fin HQ.out HB.out HB3.out (show (Value.slice (some ⟨g, off + 2, none⟩) l.length cap).ownBlock = vb from H3.out) HC.out
      have HCF := Ch.set (S := (· = q)) (p := ⟨q, 1, none⟩) (Ch.of_below (· = q) HB3.out) (.inr rfl) (.slice (some ⟨g, off + 2, none⟩) l.length cap)
      refine bodyPost_ret (v := gotO (x.1, true)) (by simp [results, Try.results48, go_sem, gotO, y1]) rfl ⟨rfl, pull_tail HQ.out.lt HQF, (HCF.set (p := ⟨w.heap.size, 0, none⟩) (.inl (Nat.le_refl _)) _).set (p := ⟨w.heap.size, 1, none⟩) (.inl (Nat.le_refl _)) _⟩

theorem pull_po (st : QSt) : (pullF st).1.po = st.po := by
  unfold pullF
  cases st.l <;> rfl
theorem popQ_pull (st : QSt) (e : Ev) (h : ¬ (getA (e.id : Int) st.po).isSome = true) : popQ st e = ({ (pullF st).1 with po := putA (e.id : Int) (pullF st).2 (pullF st).1.po }, true) := by
  obtain ⟨m, l, pu, po⟩ := st
  unfold popQ pullF
  rw [if_neg h]
  cases l <;> rfl

set_option maxRecDepth 100000 in
set_option maxHeartbeats 4000000 in
theorem popped_any {q b1 b2 : Nat} {vb : Option Nat} {base : Nat} {st : QSt} (e : Ev) (w : World) (h : Qu w q b1 b2 vb base st) (hbase : base ≤ w.heap.size) :
    Calls Try.prog 40 #[.pointer (some ⟨q, 0, none⟩), evV e] w (QPost q b1 b2 vb base (popQ st e) w) := by
  have hb0 := below2 w (.cells #[.pointer (some ⟨q, 0, none⟩)] 36) (.cells #[.bool e.push, .int .i64 (e.id : Nat), .string e.item] 29)
  have H0 := h.below hb0
  have B0 := (Blk.new w #[.pointer (some ⟨q, 0, none⟩)] 36).alloc (.cells #[.bool e.push, .int .i64 (e.id : Nat), .string e.item] 29)
  have E0 := Blk.new (w.alloc (.cells #[.pointer (some ⟨q, 0, none⟩)] 36)) #[.bool e.push, .int .i64 (e.id : Nat), .string e.item] 29
  rw [show (w.alloc (.cells #[.pointer (some ⟨q, 0, none⟩)] 36)).heap.size = w.heap.size + 1 by simp] at E0
  have hql := (h.lt (.inl rfl)).2
  obtain ⟨rr, hrr⟩ : ∃ r, popQ st e = r := ⟨_, rfl⟩
  rw [hrr]
  have HR := Lib.hid hrr
  clear hrr
  unfold evV
  go_enter Try.func40, Try.ntmps40
  go_wp2_with fail
  obtain ⟨w0, hw0⟩ : ∃ w0, w0 = (w.alloc (.cells #[.pointer (some ⟨q, 0, none⟩)] 36)).alloc (.cells #[.bool e.push, .int .i64 (e.id : Nat), .string e.item] 29) := ⟨_, rfl⟩
  rw [← hw0] at hb0 H0 B0 E0 ⊢
  clear hw0
  have HQ := Lib.hid H0
  have HB := Lib.hid B0
  have HE := Lib.hid E0
  have HBL := Lib.hid hb0
  obtain ⟨v, h1, h2, h3⟩ := H0.box
  obtain ⟨q1, q2⟩ := h1.cells
  obtain ⟨q3, q4⟩ := B0.cells
  obtain ⟨q5, q6⟩ := E0.cells
  have l1 := h1.lt
  have l2 := B0.lt
  have l3 := E0.lt
  have hlk := fun x : Later w0 => (H0.mq.below x.h).look keyI Try.underlying69 (zeroGot _) (e.id : Int) true
  have hlkA := hlk ⟨w0.drew, (Below.refl _ _).drew⟩
  have hlkB := hlk ⟨(w0.alloc (.cells #[.string ⟨#[]⟩, .bool false] 76)).drew, (below1 w0 _).drew⟩
  simp only at hlkA hlkB
  obtain ⟨s, o, i, hi, hlv⟩ : ∃ (s : ByteArray) (o i : Bool), (getA (e.id : Int) st.po).isSome = i ∧ lookV gotO (.agg #[.string ⟨#[]⟩, .bool false]) (getA (e.id : Int) st.po) true = .tuple #[.agg #[.string s, .bool o], .bool i] := by
    cases getA (e.id : Int) st.po with
    | none => exact ⟨_, _, _, rfl, rfl⟩
    | some g => exact ⟨_, _, _, rfl, rfl⟩
  rw [hlv] at hlkA hlkB
  have HI := Lib.hid hi
  clear hlk hlv hi h h1 h2 h3 H0 B0 E0 hb0
  go_cut [6] (fun v6 wx => v6 = .bool i ∧ Below w0.heap.size w0 wx)
  case first =>
    go_region_with fail
    all_goals
      go_wp2_with fail
      go_meet
      exact ⟨rfl, Ch.below (by (repeat (first | with_reducible assumption | with_reducible exact Ch.refl _ _ | with_reducible refine Ch.drew ?_ | with_reducible refine Ch.alloc ?_ _ | (with_reducible refine Ch.set' ?_ ?_; focus (first | (right; rfl; done) | (left; simp; done) | (left; simp; omega) | (left; omega) | (right; simp; done) | (right; simp; omega))))))⟩
  case rest =>
    obtain ⟨rfl, hbx⟩ := hcut
    have HQ1 := Lib.hid (HQ.out.below hbx)
    have HB1 := Lib.hid (HB.out.below hbx)
    have HE1 := Lib.hid (HE.out.below hbx)
    have HC1 := Lib.hid ((Ch.of_below (Qf q b1 b2 vb) HBL.out).call hbx)
    have l4 := HBL.out.size
    clear q1 q2 q3 q4 q5 q6 hlkA hlkB HQ HB HE HBL hbx
    cases i with
    | true =>
      have hp : popQ st e = (st, false) := by unfold popQ; rw [if_pos HI.out]
      have HR2 := Lib.hid (hp.symm.trans HR.out)
      clear hp
      go_wp2_with fail
      exact bodyPost_ret (v := .bool false) (by simp [results, Try.results40, go_sem]) rfl (by rw [← HR2.out]; exact ⟨vb, rfl, HQ1.out, fun g e => .inl e, HC1.out⟩)
    | false =>
      have hp := popQ_pull st e (by rw [HI.out]; simp)
      obtain ⟨v, h1, h2, h3⟩ := HQ1.out.box
      obtain ⟨q1, q2⟩ := h1.cells
      obtain ⟨q3, q4⟩ := HB1.out.cells
      obtain ⟨q5, q6⟩ := HE1.out.cells
      have HPL := Lib.hid (fun w' (hb : Below wc.heap.size wc w') => pull_any w.heap.size w' (HQ1.out.below hb) (HB1.out.below hb) (by omega))
      have HQL := Lib.hid (pull_po st)
      obtain ⟨⟨st2, got⟩, hst⟩ : ∃ r, pullF st = r := ⟨_, rfl⟩
      rw [hst] at HPL HQL hp
      simp only at hp HQL
      have HR2 := Lib.hid (hp.symm.trans HR.out)
      clear hp h1 h2 h3 hst
      go_wp2_with fail
      go_region_with (first
        | (go_at_call 48
           refine (HPL.out _ (Ch.below (by (repeat (first | with_reducible assumption | with_reducible exact Ch.refl _ _ | with_reducible refine Ch.drew ?_ | with_reducible refine Ch.alloc ?_ _ | (with_reducible refine Ch.set' ?_ ?_; focus (first | (right; rfl; done) | (left; simp; done) | (left; simp; omega) | (left; omega) | (right; simp; done) | (right; simp; omega)))))))).mono ?_
           intro e5 w5 hpost
           obtain ⟨rfl, Q5, c5⟩ := hpost
           obtain ⟨v5, g1, g2, g3⟩ := Q5.box
           obtain ⟨z1, z2⟩ := g1.cells
           obtain ⟨z3, z4⟩ := (HB1.out.drew.ch c5 (by omega)).cells
           obtain ⟨z5, z6⟩ := (HE1.out.drew.ch c5 (by omega)).cells
           obtain ⟨w6, hst, M6, c6, _⟩ := Q5.mq.store (P := Try.prog) keyI Try.underlying69 (e.id : Int) got
           have HQ6 := Lib.hid (Q5.putPo M6 c6)
           have HC6 := Lib.hid ((HC1.out.drew.step c5 (fun k _ e => .inl e)).step c6 (fun k _ e => .inr (.inr (.inl e))))
           clear g1 g2 g3 Q5 c5 M6 c6))
      all_goals
        go_wp2_with fail
        exact bodyPost_ret (v := .bool true) (by simp [results, Try.results40, go_sem]) rfl (by rw [← HR2.out]; exact ⟨vb, rfl, HQ6.out, fun g e => .inl e, HC6.out⟩)
end

/-! queue's Add. -/
section

open Go.RowKit

theorem Qu.many {w : World} {q b1 b2 : Nat} {vb : Option Nat} {base : Nat} {st : QSt} {v : Value} (h : Qu w q b1 b2 vb base st) (hb : Blk w q #[.int .i64 (st.many : Nat), v, .map (some b1), .map (some b2)] 72) (m : Nat) :
    Qu (w.setCell ⟨q, 0, none⟩ (.int .i64 (m : Nat))) q b1 b2 vb base { st with many := m } := by
  obtain ⟨v2, h1, h2, h3⟩ := h.box
  have hvv : v2 = v := by
    have e1 : w.heap[q]? = _ := h1
    rw [show w.heap[q]? = _ from hb] at e1
    simp at e1
    exact e1.symm
  subst hvv
  have nv := h.nv
  have n1 := h.n1
  have hs : Ch (· = q) w (w.setCell ⟨q, 0, none⟩ (.int .i64 (m : Nat))) := Ch.set (S := (· = q)) (p := ⟨q, 0, none⟩) (Ch.refl _ w) (.inr rfl) _
  refine ⟨⟨v2, ?_, h2.ch hs (fun g e => by rw [h3] at e; intro e2; exact nv.1 (by rw [e, e2])), h3⟩, h.mp.ch hs (fun e => n1.1 e.symm), h.mq.ch hs (fun e => n1.2.1 e.symm), nv, n1, h.hb⟩
  have := h1.set 0 (.int .i64 (m : Nat))
  simpa using this

set_option maxRecDepth 100000 in
set_option maxHeartbeats 4000000 in
theorem add_any {q b1 b2 : Nat} {vb : Option Nat} {base : Nat} {st : QSt} (d : ByteArray) (w : World) (h : Qu w q b1 b2 vb base st) (hd : d.size ≤ 140737488351232) (hl : st.l.length ≤ 4194304) (hm : st.many < 4194304) (hbase : base ≤ w.heap.size) :
    Calls Try.prog 17 #[.pointer (some ⟨q, 0, none⟩), .string d] w (QPost q b1 b2 vb base (addQ st (sB d)) w) := by
  have HP := Lib.hid (qparse_any d w hd)
  have HQ := Lib.hid h
  obtain ⟨rr, hrr⟩ : ∃ r, addQ st (sB d) = r := ⟨_, rfl⟩
  rw [hrr]
  have hmw : wrap64 ((st.many : Int) + 1) = ((st.many + 1 : Nat) : Int) := by rw [IntWalk.wrap64_in _ (by omega)]; rfl
  have hmw2 : IntKind.i64.wrap ((st.many : Int) + 1) = ((st.many + 1 : Nat) : Int) := by rw [IntWalk.i64_in _ (by omega)]; rfl
  cases hp : parseQ (sB d) with
  | none =>
    have hv : parseQV (sB d) = .tuple #[.agg #[.bool false, .int .i64 0, .string ⟨#[]⟩], .bool false] := by unfold parseQV; rw [hp]
    have HR := Lib.hid (show ({ st with many := st.many + 1 }, false) = rr by rw [← hrr]; unfold addQ; rw [hp])
    rw [hv] at HP
    clear hv hp hrr h
    go_enter Try.func17, Try.ntmps17
    go_wp2_with fail
    refine HP.out.mono ?_
    rintro e w1 ⟨rfl, hb1⟩
    have HQ1 := Lib.hid (HQ.out.below hb1)
    have HC1 := Lib.hid (Ch.of_below (Qf q b1 b2 vb) hb1)
    obtain ⟨v, h1, h2, h3⟩ := HQ1.out.box
    obtain ⟨q1, q2⟩ := h1.cells
    have hql := h1.lt
    have HQ2 := Lib.hid ((show Qu (w1.setCell ⟨q, 0, none⟩ (.int .i64 ((st.many : Int) + 1))) q b1 b2 vb base { st with many := st.many + 1 } from HQ1.out.many h1 (st.many + 1)).below (below1 _ (.cells #[.bool false, .int .i64 0, .string ⟨#[]⟩] 29)))
    have HC2 := Lib.hid ((Ch.set (S := Qf q b1 b2 vb) (p := ⟨q, 0, none⟩) HC1.out (.inr (.inl rfl)) (.int .i64 ((st.many : Int) + 1))).alloc (.cells #[.bool false, .int .i64 0, .string ⟨#[]⟩] 29))
    have hne : ¬ (w1.heap.size = q) := by omega
    clear h1 h2 h3 hb1 HP HQ HQ1 HC1
    go_wp2_with fail
    exact bodyPost_ret (v := .bool false) (by simp [results, Try.results17, go_sem]) rfl (by rw [← HR.out]; exact ⟨vb, rfl, HQ2.out, fun g e => .inl e, HC2.out⟩)
  | some e =>
    have hv : parseQV (sB d) = .tuple #[.agg #[.bool e.push, .int .i64 (e.id : Nat), .string e.item], .bool true] := by unfold parseQV; rw [hp]; rfl
    have hr : rr = if e.push = true then pushQ { st with many := st.many + 1 } e else popQ { st with many := st.many + 1 } e := by rw [← hrr]; unfold addQ; rw [hp]
    rw [hv] at HP
    obtain ⟨ep, eid, eit⟩ := e
    simp only at hr HP
    have HR := Lib.hid hr
    clear hv hp hrr h hr
    cases ep with
    | true =>
      have HR2 := HR.out
      simp only [if_true] at HR2
      have HR2 := Lib.hid HR2
      go_enter Try.func17, Try.ntmps17
      go_wp2_with fail
      refine HP.out.mono ?_
      rintro e w1 ⟨rfl, hb1⟩
      have HQ1 := Lib.hid (HQ.out.below hb1)
      have HC1 := Lib.hid (Ch.of_below (Qf q b1 b2 vb) hb1)
      obtain ⟨v, h1, h2, h3⟩ := HQ1.out.box
      obtain ⟨q1, q2⟩ := h1.cells
      have hql := h1.lt
      have HQ2 := Lib.hid ((show Qu (w1.setCell ⟨q, 0, none⟩ (.int .i64 ((st.many : Int) + 1))) q b1 b2 vb base { st with many := st.many + 1 } from HQ1.out.many h1 (st.many + 1)).below (below1 _ (.cells #[.bool true, .int .i64 (eid : Nat), .string eit] 29)))
      have HC2 := Lib.hid ((Ch.set (S := Qf q b1 b2 vb) (p := ⟨q, 0, none⟩) HC1.out (.inr (.inl rfl)) (.int .i64 ((st.many : Int) + 1))).alloc (.cells #[.bool true, .int .i64 (eid : Nat), .string eit] 29))
      have hne : ¬ (w1.heap.size = q) := by omega
      clear h1 h2 h3 hb1 HP HQ HQ1 HC1
      have HBE := Lib.hid (Blk.new (w1.setCell ⟨q, 0, none⟩ (.int .i64 ((st.many : Int) + 1))) #[.bool true, .int .i64 (eid : Nat), .string eit] 29)
      rw [show (w1.setCell ⟨q, 0, none⟩ (.int .i64 ((st.many : Int) + 1))).heap.size = w1.heap.size by simp] at HBE
      obtain ⟨z1, z2⟩ := HBE.out.cells
      have HPU := pushed_any ⟨true, eid, eit⟩ _ HQ2.out hl ⟨by simp, by simp; omega⟩ (by have := HC2.out.size; omega)
      obtain ⟨b, hb⟩ : ∃ b, rr.2 = b := ⟨_, rfl⟩
      unfold QPost evV at HPU
      rw [← HR2.out, hb] at HPU
      simp only at HPU
      have HB := Lib.hid hb
      clear hb
      have HPU := Lib.hid HPU
      go_wp2_with fail
      refine HPU.out.mono ?_
      rintro e w3 ⟨vb', rfl, Q3, hv3, c3⟩
      have HQ3 := Lib.hid Q3
      have HV3 := Lib.hid hv3
      have HC3 := Lib.hid (HC2.out.trans c3)
      clear Q3 hv3 c3
      go_wp2_with fail
      exact bodyPost_ret (v := .bool b) (by simp [results, Try.results17, go_sem]) rfl ⟨vb', by rw [HB.out], HQ3.out, fun g e => by
        rcases HV3.out g e with h | h
        · exact .inl h
        · right
          have := HC2.out.size
          omega, HC3.out⟩
    | false =>
      have HR2 := HR.out
      simp only [if_neg (show ¬ (false = true) by decide)] at HR2
      have HR2 := Lib.hid HR2
      go_enter Try.func17, Try.ntmps17
      go_wp2_with fail
      refine HP.out.mono ?_
      rintro e w1 ⟨rfl, hb1⟩
      have HQ1 := Lib.hid (HQ.out.below hb1)
      have HC1 := Lib.hid (Ch.of_below (Qf q b1 b2 vb) hb1)
      obtain ⟨v, h1, h2, h3⟩ := HQ1.out.box
      obtain ⟨q1, q2⟩ := h1.cells
      have hql := h1.lt
      have HQ2 := Lib.hid ((show Qu (w1.setCell ⟨q, 0, none⟩ (.int .i64 ((st.many : Int) + 1))) q b1 b2 vb base { st with many := st.many + 1 } from HQ1.out.many h1 (st.many + 1)).below (below1 _ (.cells #[.bool false, .int .i64 (eid : Nat), .string eit] 29)))
      have HC2 := Lib.hid ((Ch.set (S := Qf q b1 b2 vb) (p := ⟨q, 0, none⟩) HC1.out (.inr (.inl rfl)) (.int .i64 ((st.many : Int) + 1))).alloc (.cells #[.bool false, .int .i64 (eid : Nat), .string eit] 29))
      have hne : ¬ (w1.heap.size = q) := by omega
      clear h1 h2 h3 hb1 HP HQ HQ1 HC1
      have HBE := Lib.hid (Blk.new (w1.setCell ⟨q, 0, none⟩ (.int .i64 ((st.many : Int) + 1))) #[.bool false, .int .i64 (eid : Nat), .string eit] 29)
      rw [show (w1.setCell ⟨q, 0, none⟩ (.int .i64 ((st.many : Int) + 1))).heap.size = w1.heap.size by simp] at HBE
      obtain ⟨z1, z2⟩ := HBE.out.cells
      have HPU := popped_any ⟨false, eid, eit⟩ _ HQ2.out (by have := HC2.out.size; omega)
      obtain ⟨b, hb⟩ : ∃ b, rr.2 = b := ⟨_, rfl⟩
      unfold QPost evV at HPU
      rw [← HR2.out, hb] at HPU
      simp only at HPU
      have HB := Lib.hid hb
      clear hb
      have HPU := Lib.hid HPU
      go_wp2_with fail
      refine HPU.out.mono ?_
      rintro e w3 ⟨vb', rfl, Q3, hv3, c3⟩
      have HQ3 := Lib.hid Q3
      have HV3 := Lib.hid hv3
      have HC3 := Lib.hid (HC2.out.trans c3)
      clear Q3 hv3 c3
      go_wp2_with fail
      exact bodyPost_ret (v := .bool b) (by simp [results, Try.results17, go_sem]) rfl ⟨vb', by rw [HB.out], HQ3.out, fun g e => by
        rcases HV3.out g e with h | h
        · exact .inl h
        · right
          have := HC2.out.size
          omega, HC3.out⟩
end

/-! queue: plain laws of what is written and read; a queue that the call owns; alive, few, name. -/
section

open Go.RowKit

theorem parse_push {id : Nat} {s : ByteArray} (h : id ≤ 1099511627776) (hs : s.size ≤ 900) : parseQ (pushL id s) = some ⟨true, id, s⟩ := by
  have e0 : pushL id s = encN 1 ++ (encN id ++ (encN s.size ++ sB s)) := by rw [enc1]; rfl
  have h1 : numE 0 2 (pushL id s) = (1, 1, 0) := by
    rw [e0, numE_enc (by decide) 2 (by decide), enc1]
    rfl
  have h2 : numE 0 1099511627776 ((pushL id s).drop 1) = (id, (encN id).length, 0) := by
    show numE 0 1099511627776 (encN id ++ (encN s.size ++ sB s)) = _
    rw [numE_enc (by omega) _ (by omega)]
  have h3 : textE 0 900 ((pushL id s).drop (1 + (encN id).length)) = (sB s, (encN s.size).length + s.size, 0) := by
    rw [← List.drop_drop]
    show textE 0 900 ((encN id ++ (encN s.size ++ sB s)).drop _) = _
    rw [List.drop_left]
    have := textE_enc (s := s) (by omega) 900 (by omega) []
    rw [List.append_nil] at this
    exact this
  unfold parseQ
  rw [h1]
  simp only
  rw [h2]
  simp only
  rw [h3]
  simp only [if_true]
  rw [if_pos ⟨trivial, by simp [pushL, sB_length]; omega⟩, bS_sB]
theorem parse_pop {id : Nat} (h : id ≤ 1099511627776) : parseQ (popL id) = some ⟨false, id, ⟨#[]⟩⟩ := by
  have e0 : popL id = encN 2 ++ encN id := by rw [enc2]; rfl
  have h1 : numE 0 2 (popL id) = (2, 1, 0) := by
    rw [e0, numE_enc (by decide) 2 (by decide), enc2]
    rfl
  have h2 : numE 0 1099511627776 ((popL id).drop 1) = (id, (encN id).length, 0) := by
    show numE 0 1099511627776 (encN id) = _
    have := numE_enc (m := id) (by omega) 1099511627776 (by omega) []
    rw [List.append_nil] at this
    exact this
  unfold parseQ
  rw [h1]
  simp only
  rw [h2]
  simp only
  rw [if_neg (by decide), if_pos (by simp [popL]; omega)]
theorem parse_bpush {id : Nat} {s : ByteArray} (h : id ≤ 1099511627776) (hs : s.size ≤ 900) : parseQ (sB (bS (pushL id s))) = some ⟨true, id, s⟩ := by rw [sB_bS (pushL_lt id s), parse_push h hs]
theorem parse_bpop {id : Nat} (h : id ≤ 1099511627776) : parseQ (sB (bS (popL id))) = some ⟨false, id, ⟨#[]⟩⟩ := by rw [sB_bS (popL_lt id), parse_pop h]
theorem pushL_len (id : Nat) (s : ByteArray) (h : id ≤ 1099511627776) (hs : s.size ≤ 900) : (bS (pushL id s)).size ≤ 140737488351232 := by
  have h1 := encN_len 8 id (by omega)
  have h2 := encN_len 8 s.size (by omega)
  rw [bS_size]
  simp [pushL, sB_length]
  omega
theorem popL_len (id : Nat) (h : id ≤ 1099511627776) : (bS (popL id)).size ≤ 140737488351232 := by
  have h1 := encN_len 8 id (by omega)
  rw [bS_size]
  simp [popL]
  omega

/-- A queue that a call that began at w0 owns. -/
def QIn (w0 w : World) (q b1 b2 : Nat) (st : QSt) : Prop := ∃ vb, Qu w q b1 b2 vb w0.heap.size st ∧ Ch (fun _ => False) w0 w
theorem QIn.below {w0 w w1 : World} {q b1 b2 : Nat} {st : QSt} (h : QIn w0 w q b1 b2 st) (hb : Below w.heap.size w w1) : QIn w0 w1 q b1 b2 st := by
  obtain ⟨vb, h1, h2⟩ := h
  exact ⟨vb, h1.below hb, h2.call hb⟩
theorem QIn.ch {w0 w : World} {q b1 b2 : Nat} {st : QSt} (h : QIn w0 w q b1 b2 st) : Ch (fun _ => False) w0 w := h.choose_spec.2
theorem QIn.step {w0 w w1 : World} {q b1 b2 : Nat} {st : QSt} {r : QSt × Bool} {vb : Option Nat} {e : Ending} (h : Qu w q b1 b2 vb w0.heap.size st) (hc : Ch (fun _ => False) w0 w) (hp : QPost q b1 b2 vb w0.heap.size r w e w1) : e = .returned (.bool r.2) ∧ QIn w0 w1 q b1 b2 r.1 := by
  obtain ⟨vb', rfl, h1, h2, h3⟩ := hp
  exact ⟨rfl, vb', h1, hc.step h3 (fun k hk e => by have := (h.lt e).1; omega)⟩
theorem QIn.add {w0 w : World} {q b1 b2 : Nat} {st : QSt} (d : ByteArray) (h : QIn w0 w q b1 b2 st) (hd : d.size ≤ 140737488351232) (hl : st.l.length ≤ 4194304) (hm : st.many < 4194304) {r : QSt × Bool} (hr : addQ st (sB d) = r) :
    Calls Try.prog 17 #[.pointer (some ⟨q, 0, none⟩), .string d] w fun e w' => e = .returned (.bool r.2) ∧ QIn w0 w' q b1 b2 r.1 := by
  obtain ⟨vb, h1, h2⟩ := h
  subst hr
  exact (add_any d w h1 hd hl hm h2.size).mono fun e w' hp => QIn.step h1 h2 hp
theorem QIn.len {w0 w : World} {q b1 b2 : Nat} {st : QSt} (h : QIn w0 w q b1 b2 st) : Calls Try.prog 25 #[.pointer (some ⟨q, 0, none⟩)] w fun e w' => e = .returned (.int .i64 (st.l.length : Nat)) ∧ Below w.heap.size w w' := qlen_any w h.choose_spec.1
theorem QIn.had {w0 w : World} {q b1 b2 : Nat} {st : QSt} (id : Int) (h : QIn w0 w q b1 b2 st) : Calls Try.prog 26 #[.pointer (some ⟨q, 0, none⟩), .int .i64 id] w fun e w' => e = .returned (.bool (hadF st id)) ∧ Below w.heap.size w w' := qhad_any id w h.choose_spec.1
theorem QIn.got {w0 w : World} {q b1 b2 : Nat} {st : QSt} (id : Int) (h : QIn w0 w q b1 b2 st) : Calls Try.prog 18 #[.pointer (some ⟨q, 0, none⟩), .int .i64 id] w fun e w' => e = .returned (gotV st id) ∧ Below w.heap.size w w' := qgot_any id w h.choose_spec.1
theorem QIn.least {w0 w : World} {q b1 b2 : Nat} {st : QSt} (h : QIn w0 w q b1 b2 st) : Calls Try.prog 21 #[.pointer (some ⟨q, 0, none⟩)] w fun e w' => e = .returned (.int .i64 (leastF st : Nat)) ∧ Below w.heap.size w w' := qleast_any w h.choose_spec.1
theorem QIn.items {w0 w : World} {q b1 b2 : Nat} {st : QSt} (h : QIn w0 w q b1 b2 st) (hl : st.l.length ≤ 4194304) : Calls Try.prog 19 #[.pointer (some ⟨q, 0, none⟩)] w (ItemsPost st w) := qitems_any w h.choose_spec.1 hl
/-- Where a queue is made. -/
theorem qnew_in {w0 w : World} (hc : Ch (fun _ => False) w0 w) {e : Ending} {w' : World} (h : NewQPost w e w') : ∃ q b1 b2, e = .returned (.pointer (some ⟨q, 0, none⟩)) ∧ QIn w0 w' q b1 b2 qst0 := by
  obtain ⟨q, b1, b2, rfl, h1, h2⟩ := h
  have hs := hc.size
  refine ⟨q, b1, b2, rfl, none, ⟨?_, h1.mp, h1.mq, h1.nv, h1.n1, by have := h1.hb; omega⟩, hc.call h2⟩
  obtain ⟨v, a1, a2, a3⟩ := h1.box
  refine ⟨v, a1, ?_, a3⟩
  rcases a2 with a2 | ⟨g, off, cap, c1, c2, c3⟩
  · exact .inl a2
  · exact .inr ⟨g, off, cap, c1, by omega, c3⟩

def ba : ByteArray := ⟨#[97]⟩
def bb : ByteArray := ⟨#[98]⟩
def s1 : QSt := ⟨1, [(ba, 0)], [(1, true)], []⟩
def s2 : QSt := ⟨2, [(ba, 0), (bb, 1)], [(1, true), (2, true)], []⟩
def s3 : QSt := ⟨3, [(bb, 1)], [(1, true), (2, true)], [(7, (ba, true))]⟩
def s4 : QSt := ⟨4, [(bb, 1)], [(1, true), (2, true)], [(7, (ba, true))]⟩
theorem al1 : addQ qst0 (sB (bS (pushL 1 ba))) = (s1, true) := by unfold addQ; rw [parse_bpush (by decide) (by decide)]; rfl
theorem al2 : addQ s1 (sB (bS (pushL 2 bb))) = (s2, true) := by unfold addQ; rw [parse_bpush (by decide) (by decide)]; rfl
theorem al3 : addQ s2 (sB (bS (popL 7))) = (s3, true) := by unfold addQ; rw [parse_bpop (by decide)]; rfl
theorem al4 : addQ s3 (sB (bS (popL 7))) = (s4, false) := by unfold addQ; rw [parse_bpop (by decide)]; rfl

set_option maxRecDepth 100000 in
set_option maxHeartbeats 8000000 in
theorem alive_any (w : World) : Calls Try.prog 9 #[] w fun e w' => e = .returned (.bool true) ∧ Below w.heap.size w w' := by
  have n1 := Lib.hid (fun w2 => push_ok 1 ba w2 (by decide) (by decide))
  have n2 := Lib.hid (fun w2 => push_ok 2 bb w2 (by decide) (by decide))
  have n3 := Lib.hid (fun w2 => pop_ok 7 w2 (by decide))
  obtain ⟨d1, hd1⟩ : ∃ d, d = bS (pushL 1 ba) := ⟨_, rfl⟩
  obtain ⟨d2, hd2⟩ : ∃ d, d = bS (pushL 2 bb) := ⟨_, rfl⟩
  obtain ⟨d3, hd3⟩ : ∃ d, d = bS (popL 7) := ⟨_, rfl⟩
  have a1 := Lib.hid al1
  have a2 := Lib.hid al2
  have a3 := Lib.hid al3
  have a4 := Lib.hid al4
  have z1 := Lib.hid (pushL_len 1 ba (by decide) (by decide))
  have z2 := Lib.hid (pushL_len 2 bb (by decide) (by decide))
  have z3 := Lib.hid (popL_len 7 (by decide))
  rw [← hd1] at n1 a1 z1
  rw [← hd2] at n2 a2 z2
  rw [← hd3] at n3 a3 a4 z3
  clear hd1 hd2 hd3
  have HN := Lib.hid (qnew_any w)
  go_enter Try.func9, Try.ntmps9
  go_wp2_with fail
  refine HN.out.mono ?_
  intro e w1 hpost
  obtain ⟨q, b1, b2, rfl, Q1⟩ := qnew_in (Ch.refl _ w) hpost
  have K1 := Lib.hid Q1
  clear HN hpost Q1
  go_wp2_with fail
  refine (n1.out w1).mono ?_
  rintro e w2 ⟨rfl, hb2⟩
  have K2 := Lib.hid (K1.out.below hb2)
  clear hb2 K1
  go_wp2_with fail
  refine (n2.out w2).mono ?_
  rintro e w3 ⟨rfl, hb3⟩
  have K3 := Lib.hid (K2.out.below hb3)
  clear hb3 K2
  go_wp2_with fail
  refine (n3.out w3).mono ?_
  rintro e w4 ⟨rfl, hb4⟩
  have K4 := Lib.hid (K3.out.below hb4)
  clear hb4 K3
  go_wp2_with fail
  refine (K4.out.add d1 z1.out (by decide) (by decide) a1.out).mono ?_
  rintro e w5 ⟨rfl, Q5⟩
  have K5 := Lib.hid Q5
  clear Q5 K4
  go_wp2_with fail
  refine (K5.out.add d2 z2.out (by decide) (by decide) a2.out).mono ?_
  rintro e w6 ⟨rfl, Q6⟩
  have K6 := Lib.hid Q6
  clear Q6 K5
  go_wp2_with fail
  refine (K6.out.add d3 z3.out (by decide) (by decide) a3.out).mono ?_
  rintro e w7 ⟨rfl, Q7⟩
  have K7 := Lib.hid Q7
  clear Q7 K6
  go_wp2_with fail
  refine (K7.out.add d3 z3.out (by decide) (by decide) a4.out).mono ?_
  rintro e w8 ⟨rfl, Q8⟩
  have K8 := Lib.hid Q8
  clear Q8 K7
  go_wp2_with fail
  have HG := Lib.hid (show Calls Try.prog 18 #[.pointer (some ⟨q, 0, none⟩), .int .i64 7] w8 fun e w' => e = .returned (.tuple #[.string ⟨#[97]⟩, .bool true, .bool true]) ∧ Below w8.heap.size w8 w' from K8.out.got 7)
  refine HG.out.mono ?_
  rintro e w9 ⟨rfl, hb9⟩
  have K9 := Lib.hid (K8.out.below hb9)
  have HI := Lib.hid (K9.out.items (by decide))
  clear hb9 K8 HG
  go_wp2_with fail
  refine HI.out.mono ?_
  rintro e w10 ⟨v, rfl, R10, hb10⟩
  have K10 := Lib.hid (K9.out.below hb10)
  obtain ⟨g, cap, rfl, hc10⟩ := R10.at (i := 0) (s := ⟨#[98]⟩) rfl
  have hil : (itemsF s4).length = 1 := rfl
  clear R10
  have HD := Lib.hid (fun x : Later w10 => show Calls Try.prog 26 #[.pointer (some ⟨q, 0, none⟩), .int .i64 1] x.w fun e w' => e = .returned (.bool true) ∧ Below x.w.heap.size x.w w' from (K10.out.below x.h).had 1)
  have HD7 := Lib.hid (fun x : Later w10 => show Calls Try.prog 26 #[.pointer (some ⟨q, 0, none⟩), .int .i64 7] x.w fun e w' => e = .returned (.bool false) ∧ Below x.w.heap.size x.w w' from (K10.out.below x.h).had 7)
  have HL := Lib.hid (fun x : Later w10 => show Calls Try.prog 21 #[.pointer (some ⟨q, 0, none⟩)] x.w fun e w' => e = .returned (.int .i64 1) ∧ Below x.w.heap.size x.w w' from (K10.out.below x.h).least)
  go_wp2_with fail
  refine (HD.out ⟨w10, Below.refl _ _⟩).mono ?_
  rintro e w11 ⟨rfl, hb11⟩
  have C11 := hb11
  go_wp2_with fail
  refine (HD7.out ⟨w11, C11⟩).mono ?_
  rintro e w12 ⟨rfl, hb12⟩
  have C12 := C11.trans (hb12.mono C11.size)
  go_wp2_with fail
  refine (HL.out ⟨w12, C12⟩).mono ?_
  rintro e w13 ⟨rfl, hb13⟩
  have C13 := Lib.hid (C12.trans (hb13.mono C12.size))
  go_wp2_with fail
  go_ret
  exact ⟨rfl, (K10.out.ch.call C13.out).below⟩
end
end Go.Proofs.Ythknfikjanoflaa
