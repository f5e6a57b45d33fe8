/- FlowNotes: the walk. -/
import Derived.Test.YtoknpcohhnlncaaFlowN
set_option linter.unusedVariables false
set_option linter.unusedSimpArgs false
namespace Go.Proofs.Ytoknpcohhnlncaa
open Go.RowKit PFlowNotes Go.Proofs.YtoknpcohhnlncaaW.PrintWords

theorem parse_both (d : ByteArray) : ∃ (pa : Int) (pb : ByteArray) (pc : Bool) (K : Nat), parseV (sB d) = .tuple #[.int .i64 pa, .string pb, .bool pc] ∧ carabinerref20_Parse.f K d = some (pa, pb, pc) := by
  obtain ⟨K, hK⟩ := refparse_ok d
  have h := hK K (Nat.le_refl _)
  unfold parseV
  cases hp : parseF (sB d) with
  | none => rw [hp] at h; exact ⟨0, ⟨#[]⟩, false, K, rfl, h⟩
  | some x => obtain ⟨n, t⟩ := x; rw [hp] at h; exact ⟨n, bS t, true, K, rfl, h⟩
theorem parseV_form (l : List Nat) : ∃ (pa : Int) (pb : ByteArray) (pc : Bool), parseV l = .tuple #[.int .i64 pa, .string pb, .bool pc] := by
  unfold parseV
  cases parseF l with
  | none => exact ⟨_, _, _, rfl⟩
  | some x => exact ⟨_, _, _, rfl⟩

set_option maxRecDepth 100000 in
set_option maxHeartbeats 8000000 in
theorem notes_main (n : Int) (v d : ByteArray) (w : World) (hv : v.size ≤ 5000) (hd : d.size ≤ 5000) :
    Calls Try.prog 3 #[.int .i64 n, .string v, .string d] w fun e w' => e = .returned (.bool true) ∧ Below w.heap.size w w' := by
  have t0 : decide ((5000 : Int) < (v.size : Int)) = false := by simp; omega
  have t0' : decide (5000 < v.size) = false := by simp; omega
  have t1 : decide ((5000 : Int) < (d.size : Int)) = false := by simp; omega
  have t1' : decide (5000 < d.size) = false := by simp; omega
  obtain ⟨pa, pb, pc, K2, hp1, hp2⟩ := parse_both d
  obtain ⟨K1, hK1⟩ := refnote_ok n v
  have hn1 := hK1 K1 (Nat.le_refl _)
  unfold noteR at hn1
  have HP2 := Lib.hid (fun w3 => parse_any d w3 (by omega))
  rw [hp1] at HP2
  have HP3 := Lib.hid (fun w3 => carabinerref20_Parse.calls K2 d pa pb pc w3 hp2)
  cases hno : noteF n v with
  | none =>
    rw [hno] at hn1
    have HN1 := Lib.hid (fun w3 => note_bad n v w3 hno (by unfold maxLen; omega))
    have HN2 := Lib.hid (fun w3 => carabinerref20_Note.calls K1 n v ⟨#[]⟩ false w3 hn1)
    obtain ⟨qa, qb, qc, hq⟩ := parseV_form (sB ⟨#[]⟩)
    have HP5 := Lib.hid (fun w3 => parse_any ⟨#[]⟩ w3 (by decide))
    rw [hq] at HP5
    clear hp1 hp2 hn1 hK1 hno hq
    go_enter Try.func3, Try.ntmps3
    go_wp2_with fail
    refine (HN1.out w).mono ?_
    rintro e w1 ⟨rfl, hb1⟩
    have KC1 := Lib.hid (Ch.of_below (fun _ => False) hb1)
    clear hb1
    go_wp2_with fail
    refine (HN2.out w1).mono ?_
    rintro e w2 ⟨rfl, hb2⟩
    have KC2 := Lib.hid (KC1.out.call hb2)
    clear hb2 KC1
    go_wp2_with fail
    refine (HP2.out w2).mono ?_
    rintro e w3 ⟨rfl, hb3⟩
    have KC3 := Lib.hid (KC2.out.call hb3)
    clear hb3 KC2
    go_wp2_with fail
    refine (HP3.out w3).mono ?_
    rintro e w4 ⟨rfl, hb4⟩
    have KC4 := Lib.hid (KC3.out.call hb4)
    clear hb4 KC3
    go_wp2_with fail
    refine (HP5.out w4).mono ?_
    rintro e w5 ⟨rfl, hb5⟩
    have KC5 := Lib.hid (KC4.out.call hb5)
    clear hb5 KC4
    go_wp2_with fail
    refine (alive_any _).mono ?_
    rintro e w6 ⟨rfl, hb6⟩
    go_wp2_with fail
    go_ret
    exact ⟨rfl, (KC5.out.call hb6).below⟩
  | some l =>
    rw [hno] at hn1
    have HN1 := Lib.hid (fun w3 => note_ok n v l w3 hno)
    have HN2 := Lib.hid (fun w3 => carabinerref20_Note.calls K1 n v (bS l) true w3 hn1)
    have hpn := parse_note hno
    have hq : parseV (sB (bS l)) = .tuple #[.int .i64 n, .string v, .bool true] := by
      unfold parseV
      rw [sB_bS (noteF_lt hno), hpn.1]
      simp only
      rw [bS_sB, Int.toNat_of_nonneg hpn.2.1]
    have hls : (bS l).size ≤ 140737488351232 := by
      have h6 : l = encN n.toNat ++ (encN v.size ++ sB v) := by
        unfold noteF at hno
        split at hno
        · cases hno; rfl
        · cases hno
      have h7 := encN_len 8 n.toNat (by omega)
      have h8 := encN_len 8 v.size (by omega)
      rw [bS_size, h6, List.length_append, List.length_append, sB_length]
      omega
    have HP5 := Lib.hid (fun w3 => parse_any (bS l) w3 hls)
    rw [hq] at HP5
    clear hp1 hp2 hn1 hK1 hno hq hpn
    go_enter Try.func3, Try.ntmps3
    go_wp2_with fail
    refine (HN1.out w).mono ?_
    rintro e w1 ⟨rfl, hb1⟩
    have KC1 := Lib.hid (Ch.of_below (fun _ => False) hb1)
    clear hb1
    go_wp2_with fail
    refine (HN2.out w1).mono ?_
    rintro e w2 ⟨rfl, hb2⟩
    have KC2 := Lib.hid (KC1.out.call hb2)
    clear hb2 KC1
    go_wp2_with fail
    refine (HP2.out w2).mono ?_
    rintro e w3 ⟨rfl, hb3⟩
    have KC3 := Lib.hid (KC2.out.call hb3)
    clear hb3 KC2
    go_wp2_with fail
    refine (HP3.out w3).mono ?_
    rintro e w4 ⟨rfl, hb4⟩
    have KC4 := Lib.hid (KC3.out.call hb4)
    clear hb4 KC3
    go_wp2_with fail
    refine (HP5.out w4).mono ?_
    rintro e w5 ⟨rfl, hb5⟩
    have KC5 := Lib.hid (KC4.out.call hb5)
    clear hb5 KC4
    go_wp2_with fail
    refine (alive_any _).mono ?_
    rintro e w6 ⟨rfl, hb6⟩
    go_wp2_with fail
    go_ret
    exact ⟨rfl, (KC5.out.call hb6).below⟩

set_option maxRecDepth 100000 in
theorem notes_long (n : Int) (v d : ByteArray) (w : World) (h : 5000 < v.size ∨ (v.size ≤ 5000 ∧ 5000 < d.size)) :
    Calls Try.prog 3 #[.int .i64 n, .string v, .string d] w fun e w' => e = .returned (.bool true) ∧ Below w.heap.size w w' := by
  rcases h with h | ⟨h0, h⟩
  · have t0 : decide ((5000 : Int) < (v.size : Int)) = true := by simp; omega
    have t0' : decide (5000 < v.size) = true := by simp; omega
    clear h
    go_enter Try.func3, Try.ntmps3
    go_wp2_with fail
    refine (alive_any _).mono ?_
    rintro e w6 ⟨rfl, hb6⟩
    go_wp2_with fail
    go_ret
    exact ⟨rfl, hb6⟩
  · have t0 : decide ((5000 : Int) < (v.size : Int)) = false := by simp; omega
    have t0' : decide (5000 < v.size) = false := by simp; omega
    have t1 : decide ((5000 : Int) < (d.size : Int)) = true := by simp; omega
    have t1' : decide (5000 < d.size) = true := by simp; omega
    clear h h0
    go_enter Try.func3, Try.ntmps3
    go_wp2_with fail
    refine (alive_any _).mono ?_
    rintro e w6 ⟨rfl, hb6⟩
    go_wp2_with fail
    go_ret
    exact ⟨rfl, hb6⟩

/-- FlowNotes answers true. -/
theorem notes_row (n : Int) (v d : ByteArray) (w : World) (_ : (Lit.int .i64 n).wf = true) (_ : v.size ≤ 140737488351232) (_ : d.size ≤ 140737488351232) :
    Calls Try.prog 3 #[.int .i64 n, .string v, .string d] w fun e w' => e = .returned (.bool true) ∧ Below w.heap.size w w' := by
  by_cases h1 : v.size ≤ 5000
  · by_cases h2 : d.size ≤ 5000
    · exact notes_main n v d w h1 h2
    · exact notes_long n v d w (.inr ⟨h1, by omega⟩)
  · exact notes_long n v d w (.inl (by omega))
end Go.Proofs.Ytoknpcohhnlncaa
