/- session.Encode and Decode, by their contracts. -/
import Derived.Test.YtjilfmphdncapaaPkMy
import Derived.Test.YtjilfmphdncapaaSesAlive
set_option linter.unusedVariables false
set_option linter.unusedSimpArgs false
namespace Go.Proofs.Ytjilfmphdncapaa
open Go.RowKit

/-- A token's bytes. -/
def tokL (a b : Int) : List Nat := encN a.toNat ++ encN b.toNat
theorem rightB_bounds {a b : Int} (h : rightB a b = true) : 0 ≤ a ∧ a ≤ 64 ∧ 0 ≤ b ∧ b ≤ 1099511627776 := by
  unfold rightB at h
  simp only [Bool.and_eq_true, decide_eq_true_eq] at h
  exact ⟨h.1.1.1, h.1.1.2, h.1.2.1, h.1.2.2⟩
theorem tokL_lt (a b : Int) : ∀ x ∈ tokL a b, x < 256 := by
  intro x hx
  rcases List.mem_append.1 hx with h | h
  · exact encN_lt _ x h
  · exact encN_lt _ x h
def EncTok (a b : Int) (w : World) (e : Ending) (w' : World) : Prop :=
  ∃ v, e = .returned (.tuple #[v, .bool true]) ∧ BRow w' w.heap.size v (tokL a b) ∧ Below w.heap.size w w'

set_option maxRecDepth 100000 in
set_option maxHeartbeats 4000000 in
theorem encode_bad (a b : Int) (w : World) (h : rightB a b = false) : Calls Try.prog 21 #[.agg #[.int .i64 a, .int .i64 b]] w fun e w' => e = .returned (.tuple #[.slice none 0 0, .bool false]) ∧ Below w.heap.size w w' := by
  have HR := right_any a b (w.alloc (.cells #[.int .i64 a, .int .i64 b] 24))
  rw [h] at HR
  have HR := Lib.hid HR
  have HC := Lib.hid ((Ch.refl (fun _ => False) w).alloc (.cells #[.int .i64 a, .int .i64 b] 24))
  clear h
  go_enter Try.func21, Try.ntmps21
  go_wp2_with fail
  refine HR.out.mono ?_
  rintro e w1 ⟨rfl, hb1⟩
  go_wp2_with fail
  exact bodyPost_ret (v := .tuple #[.slice none 0 0, .bool false]) (by simp [results, Try.results21, go_sem]) rfl ⟨rfl, (HC.out.call hb1).below⟩

set_option maxRecDepth 100000 in
set_option maxHeartbeats 4000000 in
theorem encode_ok (a b : Int) (w : World) (h : rightB a b = true) : Calls Try.prog 21 #[.agg #[.int .i64 a, .int .i64 b]] w (EncTok a b w) := by
  have hb := rightB_bounds h
  have HR := right_any a b (w.alloc (.cells #[.int .i64 a, .int .i64 b] 24))
  rw [h] at HR
  have HR := Lib.hid HR
  have HC := Lib.hid ((Ch.refl (fun _ => False) w).alloc (.cells #[.int .i64 a, .int .i64 b] 24))
  have HB := Lib.hid (Blk.new w #[.int .i64 a, .int .i64 b] 24)
  obtain ⟨m, rfl⟩ : ∃ m : Nat, a = (m : Int) := ⟨a.toNat, by omega⟩
  obtain ⟨n, rfl⟩ : ∃ n : Nat, b = (n : Int) := ⟨b.toNat, by omega⟩
  have hm : m ≤ 64 := by omega
  have hn : n ≤ 1099511627776 := by omega
  clear h hb
  go_enter Try.func21, Try.ntmps21
  go_wp2_with fail
  refine HR.out.mono ?_
  rintro e w1 ⟨rfl, hb1⟩
  obtain ⟨q1, q2⟩ := (HB.out.below hb1).cells
  have HC1 := Lib.hid (HC.out.call hb1)
  have hw1 := HC1.out.size
  have HE0 := encs_ok w.heap.size w1.heap.size (.slice none 0 0) [] [m, n] (w1.alloc (.cells #[.int .i64 (m : Int), .int .i64 (n : Int)] 3)) (Blk.new w1 _ _) (BRow.nil _ _) (by simp; omega) (by simp [Value.ownBlock]) (by simp; omega) (by simp) (by simp)
  have HE := Lib.hid HE0
  have HC2 := Lib.hid (HC1.out.alloc (.cells #[.int .i64 (m : Int), .int .i64 (n : Int)] 3))
  clear HR HE0 hb1 HB HC HC1
  go_wp2_with fail
  refine HE.out.mono ?_
  rintro e w2 ⟨v, rfl, R2, _, c2⟩
  have HC3 := Lib.hid (HC2.out.step c2 (fun k _ e => by simp [Value.ownBlock] at e))
  have HR2 := Lib.hid R2
  clear HE R2 c2
  go_wp2_with fail
  exact bodyPost_ret (v := .tuple #[v, .bool true]) (by simp [results, Try.results21, go_sem]) rfl ⟨v, rfl, by have := HR2.out; simpa [encL, tokL] using this, HC3.out.below⟩

/-- What Decode reads. -/
def decF (l : List Nat) : Option (Nat × Nat) :=
  if (numE (numE 0 64 l).2.2 1099511627776 (l.drop (numE 0 64 l).2.1)).2.2 = 0 ∧ (numE 0 64 l).2.1 + (numE (numE 0 64 l).2.2 1099511627776 (l.drop (numE 0 64 l).2.1)).2.1 = l.length ∧ rightB (numE 0 64 l).1 (numE (numE 0 64 l).2.2 1099511627776 (l.drop (numE 0 64 l).2.1)).1 = true then some ((numE 0 64 l).1, (numE (numE 0 64 l).2.2 1099511627776 (l.drop (numE 0 64 l).2.1)).1) else none
def decV (l : List Nat) : Value := match decF l with
  | some (x, y) => .tuple #[.agg #[.int .i64 (x : Nat), .int .i64 (y : Nat)], .bool true]
  | none => .tuple #[.agg #[.int .i64 0, .int .i64 0], .bool false]

set_option maxRecDepth 100000 in
set_option maxHeartbeats 4000000 in
theorem decode_any (a : Option Addr) (cap : Nat) (bs : List Nat) (w : World) (ro : RowAt w a 1 b1 bs) (wb : ∀ b ∈ bs, b < 256) (hlen : bs.length ≤ 140737488351232) :
    Calls Try.prog 23 #[.slice a bs.length cap] w fun e w' => e = .returned (decV bs) ∧ Below w.heap.size w w' := by
  have HN := Lib.hid (new_any a cap bs (w.alloc (.cells #[.int .i64 0, .int .i64 0] 24)) (ro.below (below1 w _)) (by omega))
  have HB0 := Lib.hid (Blk.new w #[.int .i64 0, .int .i64 0] 24)
  have HC0 := Lib.hid ((Ch.refl (fun _ => False) w).alloc (.cells #[.int .i64 0, .int .i64 0] 24))
  have HWB := Lib.hid wb
  have hml : bs.length ≤ maxLen := by unfold maxLen; omega
  obtain ⟨⟨x, c1, e1⟩, h1⟩ : ∃ q, numE 0 64 bs = q := ⟨_, rfl⟩
  obtain ⟨⟨y, c2, e2⟩, h2⟩ : ∃ q, numE e1 1099511627776 (bs.drop c1) = q := ⟨_, rfl⟩
  have hp : decF bs = if e2 = 0 ∧ c1 + c2 = bs.length ∧ rightB x y = true then some (x, y) else none := by unfold decF; rw [h1]; simp only; rw [h2]
  have H1 := Lib.hid h1
  have H2 := Lib.hid h2
  have HP := Lib.hid hp
  clear ro wb h1 h2 hp
  go_enter Try.func23, Try.ntmps23
  go_wp2_with fail
  refine HN.out.mono ?_
  rintro e w3 ⟨r, g, rfl, D3, hr, hg, hb3⟩
  have HC3 := Lib.hid (HC0.out.call hb3)
  have HB3 := Lib.hid (HB0.out.below hb3)
  have HM := Lib.hid (num_any r g _ 0 0 64 w3 D3 HWB.out hml)
  have hwr : w.heap.size + 1 ≤ r := by simpa using hr
  clear HN D3 hb3 HC0 HB0
  go_wp2_with fail
  refine HM.out.mono ?_
  intro z w4 hpost
  obtain ⟨rfl, D4, c4⟩ := hpost.at (v := x) (c := c1) (e2 := e1) (by rw [List.drop_zero]; exact H1.out)
  rw [Nat.zero_add] at D4
  have HC4 := Lib.hid (HC3.out.step c4 (fun k hk e => by omega))
  have HB4 := Lib.hid (HB3.out.ch c4 (by omega))
  have HT := Lib.hid (num_any r g _ c1 e1 1099511627776 w4 D4 HWB.out hml)
  clear HM hpost D4 c4 HC3 HB3
  go_wp2_with fail
  refine HT.out.mono ?_
  intro z w5 hpost
  obtain ⟨rfl, D5, c5⟩ := hpost.at H2.out
  have HC5 := Lib.hid ((HC4.out.step c5 (fun k hk e => by omega)).alloc (.cells #[.int .i64 (x : Int), .int .i64 (y : Int)] 24))
  have HB5 := Lib.hid ((HB4.out.ch c5 (by omega)).alloc (.cells #[.int .i64 (x : Int), .int .i64 (y : Int)] 24))
  have HT5 := Lib.hid (Blk.new w5 #[.int .i64 (x : Int), .int .i64 (y : Int)] 24)
  have HE := Lib.hid (end_any r g _ _ e2 _ (D5.alloc (.cells #[.int .i64 (x : Int), .int .i64 (y : Int)] 24)))
  clear HT hpost D5 c5 HC4 HB4
  obtain ⟨E, hE⟩ : ∃ E : Int, E = (if e2 = 0 then (if c1 + c2 = bs.length then 0 else 22) else e2) := ⟨_, rfl⟩
  have hE0 : E = 0 ↔ e2 = 0 ∧ c1 + c2 = bs.length := by
    rw [hE]
    split
    · rename_i h0
      split
      · rename_i h1; exact ⟨fun _ => ⟨h0, h1⟩, fun _ => rfl⟩
      · rename_i h1; exact ⟨fun h => by omega, fun h => absurd h.2 h1⟩
    · rename_i h0; exact ⟨fun h => absurd h h0, fun h => absurd h.1 h0⟩
  have HE2 := HE.out
  rw [← hE] at HE2
  have HE2 := Lib.hid HE2
  have HE0 := Lib.hid hE0
  clear HE hE hE0
  by_cases h0 : E = 0
  · have t0 : (E != 0) = false := by simp [h0]
    have HR := fun w6 => right_any (x : Int) (y : Int) w6
    cases hrt : rightB (x : Int) (y : Int) with
    | true =>
      have hv : decV bs = .tuple #[.agg #[.int .i64 (x : Nat), .int .i64 (y : Nat)], .bool true] := by unfold decV; rw [HP.out, if_pos ⟨(HE0.out.1 h0).1, (HE0.out.1 h0).2, hrt⟩]
      rw [hrt] at HR
      have HV := Lib.hid hv
      have HR := Lib.hid HR
      clear hv hrt h0
      go_wp2_with fail
      refine HE2.out.mono ?_
      rintro e w6 ⟨rfl, hb6⟩
      have HC6 := Lib.hid (HC5.out.call hb6)
      have HT6 := HT5.out.below hb6
      have HB6 := HB5.out.below hb6
      obtain ⟨q1, q2⟩ := HT6.cells
      have HT6' := Lib.hid HT6
      have HB6' := Lib.hid HB6
      clear HE2 hb6 HC5 HT5 HB5 HT6 HB6
      go_wp2_with fail
      refine (HR.out w6).mono ?_
      rintro e w7 ⟨rfl, hb7⟩
      have HC7 := Lib.hid (HC6.out.call hb7)
      have HT7 := HT6'.out.below hb7
      have HB7 := HB6'.out.below hb7
      obtain ⟨q3, q4⟩ := HT7.cells
      obtain ⟨q5, q6⟩ := HB7.cells
      have hl7 := HB7.lt
      clear hb7 HC6 HT6' HB6' q1 q2
      go_wp2_with fail
      refine bodyPost_ret (v := .tuple #[.agg #[.int .i64 (x : Int), .int .i64 (y : Int)], .bool true]) (by simp [results, Try.results23, go_sem, q3, q5]) rfl ⟨by rw [HV.out], ?_⟩
      have := HC7.out
      exact Ch.below (by (repeat (first | with_reducible assumption | with_reducible exact Ch.refl _ _ | with_reducible refine Ch.drew ?_ | with_reducible refine Ch.alloc ?_ _ | (with_reducible refine Ch.set' ?_ ?_; focus (first | (right; rfl; done) | (left; simp; done) | (left; simp; omega) | (left; omega) | (right; simp; done) | (right; simp; omega))))))
    | false =>
      have hv : decV bs = .tuple #[.agg #[.int .i64 0, .int .i64 0], .bool false] := by unfold decV; rw [HP.out, if_neg (fun h => by rw [hrt] at h; cases h.2.2)]
      rw [hrt] at HR
      have HV := Lib.hid hv
      have HR := Lib.hid HR
      clear hv hrt h0
      go_wp2_with fail
      refine HE2.out.mono ?_
      rintro e w6 ⟨rfl, hb6⟩
      have HC6 := Lib.hid (HC5.out.call hb6)
      have HT6 := HT5.out.below hb6
      have HB6 := HB5.out.below hb6
      obtain ⟨q1, q2⟩ := HT6.cells
      have HB6' := Lib.hid HB6
      clear HE2 hb6 HC5 HT5 HB5 HT6 HB6
      go_wp2_with fail
      refine (HR.out w6).mono ?_
      rintro e w7 ⟨rfl, hb7⟩
      have HC7 := Lib.hid (HC6.out.call hb7)
      have HB7 := HB6'.out.below hb7
      obtain ⟨q5, q6⟩ := HB7.cells
      have hl7 := HB7.lt
      clear hb7 HC6 HB6' q1 q2
      go_wp2_with fail
      refine bodyPost_ret (v := .tuple #[.agg #[.int .i64 0, .int .i64 0], .bool false]) (by simp [results, Try.results23, go_sem, q5]) rfl ⟨by rw [HV.out], ?_⟩
      have := HC7.out
      exact Ch.below (by (repeat (first | with_reducible assumption | with_reducible exact Ch.refl _ _ | with_reducible refine Ch.drew ?_ | with_reducible refine Ch.alloc ?_ _ | (with_reducible refine Ch.set' ?_ ?_; focus (first | (right; rfl; done) | (left; simp; done) | (left; simp; omega) | (left; omega) | (right; simp; done) | (right; simp; omega))))))
  · have t0 : (E != 0) = true := by simp [h0]
    have hv : decV bs = .tuple #[.agg #[.int .i64 0, .int .i64 0], .bool false] := by unfold decV; rw [HP.out, if_neg (fun h => h0 (HE0.out.2 ⟨h.1, h.2.1⟩))]
    have HV := Lib.hid hv
    clear hv h0
    go_wp2_with fail
    refine HE2.out.mono ?_
    rintro e w6 ⟨rfl, hb6⟩
    have HC6 := Lib.hid (HC5.out.call hb6)
    have HB6 := HB5.out.below hb6
    obtain ⟨q5, q6⟩ := HB6.cells
    have hl7 := HB6.lt
    clear HE2 hb6 HC5 HT5 HB5 HB6
    go_wp2_with fail
    refine bodyPost_ret (v := .tuple #[.agg #[.int .i64 0, .int .i64 0], .bool false]) (by simp [results, Try.results23, go_sem, q5]) rfl ⟨by rw [HV.out], ?_⟩
    have := HC6.out
    exact Ch.below (by (repeat (first | with_reducible assumption | with_reducible exact Ch.refl _ _ | with_reducible refine Ch.drew ?_ | with_reducible refine Ch.alloc ?_ _ | (with_reducible refine Ch.set' ?_ ?_; focus (first | (right; rfl; done) | (left; simp; done) | (left; simp; omega) | (left; omega) | (right; simp; done) | (right; simp; omega))))))
end Go.Proofs.Ytjilfmphdncapaa
