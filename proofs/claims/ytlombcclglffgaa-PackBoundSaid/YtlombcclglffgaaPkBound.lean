/- PackBound: the walk. -/
import Derived.Test.YtlombcclglffgaaPkAlive
import Derived.Test.YtlombcclglffgaaPkLaw
namespace Go.Proofs.Ytlombcclglffgaa
open Go.RowKit

set_option maxRecDepth 100000 in
set_option maxHeartbeats 4000000 in
theorem bound_bad (n most : Int) (w : World) (hn : (decide (0 ≤ n) && decide (n ≤ 4611686018427387904)) = false) :
    Calls Try.prog 3 #[.int .i64 n, .int .i64 most] w fun e w' => e = .returned (.bool true) ∧ Below w.heap.size w w' := by
  have HE := Lib.hid (enc_bad w.heap.size (.slice none 0 0) n (w.alloc (.cells #[.int .i64 n] 3)) (Blk.new w _ _) hn)
  have ht : (decide (n < 0) || decide (4611686018427387904 < n)) = true := by simp at hn ⊢; omega
  clear hn
  by_cases h0 : n < 0
  · have h1 : decide (n < 0) = true := by simpa using h0
    clear h0 ht
    go_enter Try.func3, Try.ntmps3
    go_wp2_with fail
    refine HE.out.mono ?_
    rintro e w1 ⟨rfl, hb1⟩
    have C1 := Lib.hid (((Ch.refl (fun _ => False) w).alloc (.cells #[.int .i64 n] 3)).call hb1)
    have HN := Lib.hid (new_any none 0 [] w1 (fun i x hx => by simp at hx) (by simp))
    clear HE hb1
    go_wp2_with fail
    refine HN.out.mono ?_
    rintro e w3 ⟨r, g, rfl, _, _, _, hb3⟩
    have C3 := Lib.hid (C1.out.call hb3)
    clear HN C1 hb3
    go_wp2_with fail
    refine (alive_any _).mono ?_
    rintro e w4 ⟨rfl, hb4⟩
    go_wp2_with fail
    go_ret
    exact ⟨rfl, (C3.out.call hb4).below⟩
  · have h1 : decide (n < 0) = false := by simpa using h0
    have h2 : decide (4611686018427387904 < n) = true := by rw [h1] at ht; simpa using ht
    clear h0 ht
    go_enter Try.func3, Try.ntmps3
    go_wp2_with fail
    refine HE.out.mono ?_
    rintro e w1 ⟨rfl, hb1⟩
    have C1 := Lib.hid (((Ch.refl (fun _ => False) w).alloc (.cells #[.int .i64 n] 3)).call hb1)
    have HN := Lib.hid (new_any none 0 [] w1 (fun i x hx => by simp at hx) (by simp))
    clear HE hb1
    go_wp2_with fail
    refine HN.out.mono ?_
    rintro e w3 ⟨r, g, rfl, _, _, _, hb3⟩
    have C3 := Lib.hid (C1.out.call hb3)
    clear HN C1 hb3
    go_wp2_with fail
    refine (alive_any _).mono ?_
    rintro e w4 ⟨rfl, hb4⟩
    go_wp2_with fail
    go_ret
    exact ⟨rfl, (C3.out.call hb4).below⟩

set_option maxRecDepth 100000 in
set_option maxHeartbeats 4000000 in
theorem bound_ok (n : Nat) (most : Int) (w : World) (hn : n ≤ 4611686018427387904) :
    Calls Try.prog 3 #[.int .i64 n, .int .i64 most] w fun e w' => e = .returned (.bool true) ∧ Below w.heap.size w w' := by
  have HE := Lib.hid (enc_ok w.heap.size w.heap.size (.slice none 0 0) [] n (w.alloc (.cells #[.int .i64 n] 3)) (Blk.new w _ _) (BRow.nil _ _) (by simp) hn (by simp))
  have hlen : (encN n).length ≤ 9 := encN_len 8 n (by omega)
  have hq := numF_enc hn most []
  rw [List.append_nil] at hq
  go_enter Try.func3, Try.ntmps3
  go_wp2_with fail
  refine HE.out.mono ?_
  rintro e w1 ⟨v1, rfl, R1, _, c1⟩
  rw [List.nil_append] at R1
  have C1 : Ch (fun _ => False) w w1 := ((Ch.refl (fun _ => False) w).alloc (.cells #[.int .i64 n] 3)).step c1 (fun k _ e => by simp [Value.ownBlock] at e)
  have HC1 := Lib.hid C1
  obtain ⟨a, cap, rfl, hrow⟩ := R1.at
  have HN := Lib.hid (new_any a cap (encN n) w1 hrow (by omega))
  have HQ := Lib.hid hq
  clear HE R1 c1 C1 hrow hq
  go_wp2_with fail
  refine HN.out.mono ?_
  rintro e w3 ⟨r, g, rfl, D3, hr, hg, hb3⟩
  have HC3 := Lib.hid (HC1.out.call hb3)
  have HM := Lib.hid (num_any r g _ 0 0 most w3 D3 (encN_lt n) (by unfold maxLen; omega))
  have hs1 := HC1.out.size
  clear HN HC1 hb3 D3
  go_wp2_with fail
  refine HM.out.mono ?_
  intro e w4 hpost
  by_cases hl : (n : Int) ≤ most
  · have h1 : decide ((n : Int) ≤ most) = true := by simpa using hl
    obtain ⟨rfl, D4, c4⟩ := hpost.at (v := n) (c := (encN n).length) (e2 := 0) (by unfold numE; rw [if_pos rfl, List.drop_zero, HQ.out, if_pos hl])
    have HC4 := Lib.hid (HC3.out.step c4 (fun k hk e => by omega))
    have HD4 := Lib.hid D4
    clear HM hpost D4 c4 HC3
    go_wp2_with fail
    refine (alive_any _).mono ?_
    rintro e w5 ⟨rfl, hb5⟩
    have HEnd := end_any r g _ _ 0 w5 (HD4.out.below hb5)
    rw [if_pos rfl, if_pos (by omega)] at HEnd
    have HEnd' := Lib.hid HEnd
    have HC5 := Lib.hid (HC4.out.call hb5)
    clear HEnd HD4 HC4 hb5
    go_wp2_with fail
    refine HEnd'.out.mono ?_
    rintro e w6 ⟨rfl, hb6⟩
    go_wp2_with fail
    go_ret
    exact ⟨rfl, (HC5.out.call hb6).below⟩
  · have h1 : decide ((n : Int) ≤ most) = false := by simpa using hl
    obtain ⟨rfl, D4, c4⟩ := hpost.at (v := 0) (c := (encN n).length) (e2 := 21) (by unfold numE; rw [if_pos rfl, List.drop_zero, HQ.out, if_neg hl])
    have HC4 := Lib.hid (HC3.out.step c4 (fun k hk e => by omega))
    have HD4 := Lib.hid D4
    clear HM hpost D4 c4 HC3
    go_wp2_with fail
    refine (alive_any _).mono ?_
    rintro e w5 ⟨rfl, hb5⟩
    have HEnd := end_any r g _ _ 21 w5 (HD4.out.below hb5)
    rw [if_neg (by decide)] at HEnd
    have HEnd' := Lib.hid HEnd
    have HC5 := Lib.hid (HC4.out.call hb5)
    clear HEnd HD4 HC4 hb5
    go_wp2_with fail
    refine HEnd'.out.mono ?_
    rintro e w6 ⟨rfl, hb6⟩
    go_wp2_with fail
    go_ret
    exact ⟨rfl, (HC5.out.call hb6).below⟩

/-- PackBound answers true. -/
theorem bound_row (n most : Int) (w : World) (_ : (Lit.int .i64 n).wf = true) (_ : (Lit.int .i64 most).wf = true) :
    Calls Try.prog 3 #[.int .i64 n, .int .i64 most] w fun e w' => e = .returned (.bool true) ∧ Below w.heap.size w w' := by
  cases hn : decide (0 ≤ n) && decide (n ≤ 4611686018427387904) with
  | false => exact bound_bad n most w hn
  | true =>
    simp at hn
    obtain ⟨k, rfl⟩ : ∃ k : Nat, n = (k : Int) := ⟨n.toNat, by omega⟩
    exact bound_ok k most w (by omega)
end Go.Proofs.Ytlombcclglffgaa
