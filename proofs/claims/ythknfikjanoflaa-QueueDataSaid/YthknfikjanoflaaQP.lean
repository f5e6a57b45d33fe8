/- queue's Parse. -/
import Derived.Test.YthknfikjanoflaaQ
set_option linter.unusedVariables false
set_option linter.unusedSimpArgs false
namespace Go.Proofs.Ythknfikjanoflaa
open Go.RowKit

/-- What any data says. -/
def parseQ (l : List Nat) : Option Ev :=
  let n1 := numE 0 2 l
  let n2 := numE n1.2.2 1099511627776 (l.drop n1.2.1)
  if n1.1 = 1 then
    let t := textE n2.2.2 900 (l.drop (n1.2.1 + n2.2.1))
    if t.2.2 = 0 ∧ n1.2.1 + n2.2.1 + t.2.1 = l.length then some ⟨true, n2.1, bS t.1⟩ else none
  else if n2.2.2 = 0 ∧ n1.2.1 + n2.2.1 = l.length ∧ n1.1 ≠ 0 then some ⟨false, n2.1, ⟨#[]⟩⟩ else none
def evV (e : Ev) : Value := .agg #[.bool e.push, .int .i64 (e.id : Nat), .string e.item]
def parseQV (l : List Nat) : Value := match parseQ l with
  | some e => .tuple #[evV e, .bool true]
  | none => .tuple #[.agg #[.bool false, .int .i64 0, .string ⟨#[]⟩], .bool false]

set_option maxRecDepth 100000 in
set_option maxHeartbeats 4000000 in
theorem qparse_any (s : ByteArray) (w : World) (hs : s.size ≤ 140737488351232) : Calls Try.prog 13 #[.string s] w fun e w' => e = .returned (parseQV (sB s)) ∧ Below w.heap.size w w' := by
  obtain ⟨cap, w1, hconv, hrow, hb1⟩ := conv_bytes (w.alloc (.cells #[.bool false, .int .i64 0, .string ⟨#[]⟩] 29)) s
  rw [show (w.alloc (.cells #[.bool false, .int .i64 0, .string ⟨#[]⟩] 29)).heap.size = w.heap.size + 1 by simp] at hconv hrow
  have BE1 := Lib.hid ((Blk.new w #[.bool false, .int .i64 0, .string ⟨#[]⟩] 29).below hb1)
  have hlen : (sB s).length ≤ 140737488351232 := by rw [sB_length]; exact hs
  have HN := Lib.hid (new_any _ cap (sB s) w1 hrow (by omega))
  have HC1 := Lib.hid (((Ch.refl (fun _ => False) w).alloc (.cells #[.bool false, .int .i64 0, .string ⟨#[]⟩] 29)).call hb1)
  have hml : (sB s).length ≤ maxLen := by unfold maxLen; omega
  obtain ⟨⟨n, c1, e1⟩, h1⟩ : ∃ x, numE 0 2 (sB s) = x := ⟨_, rfl⟩
  obtain ⟨⟨id, c2, e2⟩, h2⟩ : ∃ x, numE e1 1099511627776 ((sB s).drop c1) = x := ⟨_, rfl⟩
  obtain ⟨⟨t, c3, e3⟩, h3⟩ : ∃ x, textE e2 900 ((sB s).drop (c1 + c2)) = x := ⟨_, rfl⟩
  have hp : parseQ (sB s) = if n = 1 then (if e3 = 0 ∧ c1 + c2 + c3 = (sB s).length then some ⟨true, id, bS t⟩ else none) else if e2 = 0 ∧ c1 + c2 = (sB s).length ∧ n ≠ 0 then some ⟨false, id, ⟨#[]⟩⟩ else none := by
    unfold parseQ
    rw [h1]
    simp only
    rw [h2]
    simp only
    rw [h3]
  have H1 := Lib.hid h1
  have H2 := Lib.hid h2
  have H3 := Lib.hid h3
  have HP := Lib.hid hp
  clear hrow hb1 h1 h2 h3 hp
  go_enter Try.func13, Try.ntmps13
  go_wp2_with fail
  refine HN.out.mono ?_
  rintro e w3 ⟨r, g, rfl, D3, hr, hg, hb3⟩
  have HC3 := Lib.hid (HC1.out.call hb3)
  have BE3 := Lib.hid (BE1.out.below hb3)
  have HM := Lib.hid (num_any r g _ 0 0 2 w3 D3 (sB_lt s) hml)
  have hsz1 := HC1.out.size
  have hlt1 := BE1.out.lt
  clear HN D3 hb3 HC1 hconv
  go_wp2_with fail
  refine HM.out.mono ?_
  intro x w4 hpost
  obtain ⟨rfl, D4, c4⟩ := hpost.at (v := n) (c := c1) (e2 := e1) (by rw [List.drop_zero]; exact H1.out)
  rw [Nat.zero_add] at D4
  have HC4 := Lib.hid (HC3.out.step c4 (fun k hk e => by omega))
  have BE4 := Lib.hid (BE3.out.ch c4 (by omega))
  have HM2 := Lib.hid (num_any r g _ c1 e1 1099511627776 w4 D4 (sB_lt s) hml)
  clear HM hpost c4 HC3 D4 BE1 BE3
  by_cases hn : n = 1
  · have t0 : ((n : Int) == 1) = true := by simp [hn]
    have t1 : (n == 1) = true := by simp [hn]
    have hn0 : ((n : Int) == 0) = false := by simp [hn]
    have HP1 := HP.out
    rw [if_pos hn] at HP1
    have HP1 := Lib.hid HP1
    clear HP hn
    go_wp2_with fail
    refine HM2.out.mono ?_
    intro x w5 hpost
    obtain ⟨rfl, D5, c5⟩ := hpost.at H2.out
    have HC5 := Lib.hid (HC4.out.step c5 (fun k hk e => by omega))
    have BE5 := Lib.hid (BE4.out.ch c5 (by omega))
    obtain ⟨q1, q2⟩ := BE5.out.cells
    have HD5 := Lib.hid D5
    have HD6 := HD5.out.below (below1 w5 (.cells #[.bool true, .int .i64 (id : Nat), .string ⟨#[]⟩] 29))
    have HT := Lib.hid (rtext_any r g _ (c1 + c2) e2 900 _ HD6 (sB_lt s) hml)
    have BX := Lib.hid (Blk.new w5 #[.bool true, .int .i64 (id : Nat), .string ⟨#[]⟩] 29)
    have HC6 := Lib.hid (HC5.out.alloc (.cells #[.bool true, .int .i64 (id : Nat), .string ⟨#[]⟩] 29))
    have BE6 := Lib.hid (BE5.out.alloc (.cells #[.bool true, .int .i64 (id : Nat), .string ⟨#[]⟩] 29))
    have hw5 := HD5.out.lt
    clear HM2 hpost D5 c5 HC4 BE4 HD6 q1 q2
    go_wp2_with fail
    refine HT.out.mono ?_
    intro x w6 hpost
    obtain ⟨rfl, D6, c6⟩ := hpost.at H3.out
    have C7 := HC6.out.step c6 (fun k hk e => by omega)
    have BX6 := BX.out.ch c6 (by omega)
    have hsz5 := HC5.out.size
    have HC7 := Lib.hid (C7.set (p := ⟨w5.heap.size, 2, none⟩) (.inl hsz5) (.string (bS t)))
    have BE7 := Lib.hid ((BE6.out.ch c6 (by omega)).far (p := ⟨w5.heap.size, 2, none⟩) (by have := BE5.out.lt; simp; omega) (.string (bS t)))
    have BX7 := Lib.hid (show Blk _ w5.heap.size #[.bool true, .int .i64 (id : Nat), .string (bS t)] 29 from BX6.set 2 (.string (bS t)))
    have HE := Lib.hid (end_any r g _ (c1 + c2 + c3) e3 _ (D6.ch (Ch.set (S := fun k => k = w5.heap.size) (p := ⟨w5.heap.size, 2, none⟩) (Ch.refl _ w6) (.inr rfl) (.string (bS t))) (by omega) (by omega)))
    obtain ⟨q1, q2⟩ := (BE6.out.ch c6 (by omega)).cells
    obtain ⟨q3, q4⟩ := BX6.cells
    clear HT hpost c6 HC6 BE6 BX HC5 BE5 BX6 C7 D6 hsz5
    by_cases hok : e3 = 0 ∧ c1 + c2 + c3 = (sB s).length
    · have hv : parseQV (sB s) = .tuple #[evV ⟨true, id, bS t⟩, .bool true] := by unfold parseQV; rw [HP1.out, if_pos hok]
      have HE2 := HE.out
      rw [if_pos hok.1, if_pos hok.2] at HE2
      have HE2 := Lib.hid HE2
      have HV := Lib.hid hv
      clear hok hv HE
      go_wp2_with fail
      refine HE2.out.mono ?_
      rintro e w8 ⟨rfl, hb8⟩
      have BX8 := BX7.out.below hb8
      have BE8 := BE7.out.below hb8
      obtain ⟨q5, q6⟩ := BX8.cells
      obtain ⟨q7, q8⟩ := BE8.cells
      have HX8 := Lib.hid BX8
      have HC8 := Lib.hid (HC7.out.call hb8)
      have hbe8 := BE8.lt
      have HBE8 := Lib.hid BE8
      clear BX8 BE8 hb8 HE2 q1 q2 q3 q4
      go_wp2_with fail
      have C8 := HC8.out
      obtain ⟨z1, z2⟩ := (show Blk _ w.heap.size #[.bool true, (.int .i64 (id : Nat)), (.string (bS t))] 29 from ((HBE8.out.set 0 (.bool true)).set 1 (.int .i64 (id : Nat))).set 2 (.string (bS t))).cells
      exact bodyPost_ret (v := .tuple #[evV ⟨true, id, bS t⟩, .bool true]) (by simp [results, Try.results13, go_sem, evV, z1]) rfl ⟨by rw [HV.out], Ch.below (by (repeat (first | with_reducible assumption | with_reducible exact Ch.refl _ _ | with_reducible refine Ch.drew ?_ | with_reducible refine Ch.alloc ?_ _ | (with_reducible refine Ch.set' ?_ ?_; focus (first | (right; rfl; done) | (left; simp; done) | (left; simp; omega) | (left; omega) | (right; simp; done) | (right; simp; omega))))))⟩
    · have hv : parseQV (sB s) = .tuple #[.agg #[.bool false, .int .i64 0, .string ⟨#[]⟩], .bool false] := by unfold parseQV; rw [HP1.out, if_neg hok]
      have hno := hok
      obtain ⟨E, hE, hE2⟩ : ∃ E, E = (if e3 = 0 then (if c1 + c2 + c3 = (sB s).length then 0 else 22) else e3) ∧ (E == 0) = false := by
        refine ⟨_, rfl, ?_⟩
        split
        · rename_i h0
          rw [if_neg (fun h => hno ⟨h0, h⟩)]
          rfl
        · rename_i h0
          simpa using h0
      have hE3 : (E != 0) = true := by unfold bne; rw [hE2]; rfl
      have HE2 := HE.out
      rw [← hE] at HE2
      have HE2 := Lib.hid HE2
      have HV := Lib.hid hv
      clear hok hv hE HE hno
      go_wp2_with fail
      refine HE2.out.mono ?_
      rintro e w8 ⟨rfl, hb8⟩
      have BE8 := BE7.out.below hb8
      obtain ⟨q7, q8⟩ := BE8.cells
      have HC8 := Lib.hid (HC7.out.call hb8)
      have hbe8 := BE8.lt
      have HBE8 := Lib.hid BE8
      clear BE8 hb8 HE2 q1 q2 q3 q4
      go_wp2_with fail
      have C8 := HC8.out
      obtain ⟨z1, z2⟩ := (show Blk _ w.heap.size #[.bool false, (.int .i64 0), (.string ⟨#[]⟩)] 29 from ((HBE8.out.set 0 (.bool false)).set 1 (.int .i64 0)).set 2 (.string ⟨#[]⟩)).cells
      exact bodyPost_ret (v := .tuple #[.agg #[.bool false, .int .i64 0, .string ⟨#[]⟩], .bool false]) (by simp [results, Try.results13, go_sem, evV, z1]) rfl ⟨by rw [HV.out], Ch.below (by (repeat (first | with_reducible assumption | with_reducible exact Ch.refl _ _ | with_reducible refine Ch.drew ?_ | with_reducible refine Ch.alloc ?_ _ | (with_reducible refine Ch.set' ?_ ?_; focus (first | (right; rfl; done) | (left; simp; done) | (left; simp; omega) | (left; omega) | (right; simp; done) | (right; simp; omega))))))⟩
  · have t0 : ((n : Int) == 1) = false := by simp; omega
    have t1 : (n == 1) = false := by simpa using hn
    have HP1 := HP.out
    rw [if_neg hn] at HP1
    have HP1 := Lib.hid HP1
    clear HP
    go_wp2_with fail
    refine HM2.out.mono ?_
    intro x w5 hpost
    obtain ⟨rfl, D5, c5⟩ := hpost.at H2.out
    have HC5 := Lib.hid (HC4.out.step c5 (fun k hk e => by omega))
    have BE5 := Lib.hid (BE4.out.ch c5 (by omega))
    obtain ⟨q1, q2⟩ := BE5.out.cells
    have HD5 := Lib.hid D5
    have HE := Lib.hid (end_any r g _ (c1 + c2) e2 _ (HD5.out.below (below1 w5 (.cells #[.bool false, .int .i64 (id : Nat), .string ⟨#[]⟩] 29))))
    have BX7 := Lib.hid (Blk.new w5 #[.bool false, .int .i64 (id : Nat), .string ⟨#[]⟩] 29)
    have HC7 := Lib.hid (HC5.out.alloc (.cells #[.bool false, .int .i64 (id : Nat), .string ⟨#[]⟩] 29))
    have BE7 := Lib.hid (BE5.out.alloc (.cells #[.bool false, .int .i64 (id : Nat), .string ⟨#[]⟩] 29))
    obtain ⟨q3, q4⟩ := BE5.out.cells
    clear HM2 hpost D5 c5 HC4 BE4 HC5 BE5
    by_cases hok : e2 = 0 ∧ c1 + c2 = (sB s).length ∧ n ≠ 0
    · have hv : parseQV (sB s) = .tuple #[evV ⟨false, id, ⟨#[]⟩⟩, .bool true] := by unfold parseQV; rw [HP1.out, if_pos hok]
      have HE2 := HE.out
      rw [if_pos hok.1, if_pos hok.2.1] at HE2
      have HE2 := Lib.hid HE2
      have HV := Lib.hid hv
      have t9 : ((n : Int) == 0) = false := by have := hok.2.2; simp; omega
      clear hok hv HE
      go_wp2_with fail
      refine HE2.out.mono ?_
      rintro e w8 ⟨rfl, hb8⟩
      have BX8 := BX7.out.below hb8
      have BE8 := BE7.out.below hb8
      obtain ⟨q5, q6⟩ := BX8.cells
      obtain ⟨q7, q8⟩ := BE8.cells
      have HX8 := Lib.hid BX8
      have HC8 := Lib.hid (HC7.out.call hb8)
      have hbe8 := BE8.lt
      have HBE8 := Lib.hid BE8
      clear BX8 BE8 hb8 HE2 q1 q2 q3 q4
      go_wp2_with fail
      have C8 := HC8.out
      obtain ⟨z1, z2⟩ := (show Blk _ w.heap.size #[.bool false, (.int .i64 (id : Nat)), (.string ⟨#[]⟩)] 29 from ((HBE8.out.set 0 (.bool false)).set 1 (.int .i64 (id : Nat))).set 2 (.string ⟨#[]⟩)).cells
      exact bodyPost_ret (v := .tuple #[evV ⟨false, id, ⟨#[]⟩⟩, .bool true]) (by simp [results, Try.results13, go_sem, evV, z1]) rfl ⟨by rw [HV.out], Ch.below (by (repeat (first | with_reducible assumption | with_reducible exact Ch.refl _ _ | with_reducible refine Ch.drew ?_ | with_reducible refine Ch.alloc ?_ _ | (with_reducible refine Ch.set' ?_ ?_; focus (first | (right; rfl; done) | (left; simp; done) | (left; simp; omega) | (left; omega) | (right; simp; done) | (right; simp; omega))))))⟩
    · have hv : parseQV (sB s) = .tuple #[.agg #[.bool false, .int .i64 0, .string ⟨#[]⟩], .bool false] := by unfold parseQV; rw [HP1.out, if_neg hok]
      by_cases hno : e2 = 0 ∧ c1 + c2 = (sB s).length
      · have hn0 : n = 0 := Decidable.byContradiction (fun h => hok ⟨hno.1, hno.2, h⟩)
        have t9 : ((n : Int) == 0) = true := by simp [hn0]
        have HE2 := HE.out
        rw [if_pos hno.1, if_pos hno.2] at HE2
        have HE2 := Lib.hid HE2
        have HV := Lib.hid hv
        clear hok hv HE hno hn0
        go_wp2_with fail
        refine HE2.out.mono ?_
        rintro e w8 ⟨rfl, hb8⟩
        have BE8 := BE7.out.below hb8
        obtain ⟨q7, q8⟩ := BE8.cells
        have HC8 := Lib.hid (HC7.out.call hb8)
        have hbe8 := BE8.lt
        have HBE8 := Lib.hid BE8
        clear BE8 hb8 HE2 q1 q2 q3 q4
        go_wp2_with fail
        have C8 := HC8.out
        obtain ⟨z1, z2⟩ := (show Blk _ w.heap.size #[.bool false, (.int .i64 0), (.string ⟨#[]⟩)] 29 from ((HBE8.out.set 0 (.bool false)).set 1 (.int .i64 0)).set 2 (.string ⟨#[]⟩)).cells
        exact bodyPost_ret (v := .tuple #[.agg #[.bool false, .int .i64 0, .string ⟨#[]⟩], .bool false]) (by simp [results, Try.results13, go_sem, evV, z1]) rfl ⟨by rw [HV.out], Ch.below (by (repeat (first | with_reducible assumption | with_reducible exact Ch.refl _ _ | with_reducible refine Ch.drew ?_ | with_reducible refine Ch.alloc ?_ _ | (with_reducible refine Ch.set' ?_ ?_; focus (first | (right; rfl; done) | (left; simp; done) | (left; simp; omega) | (left; omega) | (right; simp; done) | (right; simp; omega))))))⟩
      · obtain ⟨E, hE, hE2⟩ : ∃ E, E = (if e2 = 0 then (if c1 + c2 = (sB s).length then 0 else 22) else e2) ∧ (E == 0) = false := by
          refine ⟨_, rfl, ?_⟩
          split
          · rename_i h0
            rw [if_neg (fun h => hno ⟨h0, h⟩)]
            rfl
          · rename_i h0
            simpa using h0
        have hE3 : (E != 0) = true := by unfold bne; rw [hE2]; rfl
        have HE2 := HE.out
        rw [← hE] at HE2
        have HE2 := Lib.hid HE2
        have HV := Lib.hid hv
        clear hok hv hE HE hno
        go_wp2_with fail
        refine HE2.out.mono ?_
        rintro e w8 ⟨rfl, hb8⟩
        have BE8 := BE7.out.below hb8
        obtain ⟨q7, q8⟩ := BE8.cells
        have HC8 := Lib.hid (HC7.out.call hb8)
        have hbe8 := BE8.lt
        have HBE8 := Lib.hid BE8
        clear BE8 hb8 HE2 q1 q2 q3 q4
        go_wp2_with fail
        have C8 := HC8.out
        obtain ⟨z1, z2⟩ := (show Blk _ w.heap.size #[.bool false, (.int .i64 0), (.string ⟨#[]⟩)] 29 from ((HBE8.out.set 0 (.bool false)).set 1 (.int .i64 0)).set 2 (.string ⟨#[]⟩)).cells
        exact bodyPost_ret (v := .tuple #[.agg #[.bool false, .int .i64 0, .string ⟨#[]⟩], .bool false]) (by simp [results, Try.results13, go_sem, evV, z1]) rfl ⟨by rw [HV.out], Ch.below (by (repeat (first | with_reducible assumption | with_reducible exact Ch.refl _ _ | with_reducible refine Ch.drew ?_ | with_reducible refine Ch.alloc ?_ _ | (with_reducible refine Ch.set' ?_ ?_; focus (first | (right; rfl; done) | (left; simp; done) | (left; simp; omega) | (left; omega) | (right; simp; done) | (right; simp; omega))))))⟩
end Go.Proofs.Ythknfikjanoflaa
