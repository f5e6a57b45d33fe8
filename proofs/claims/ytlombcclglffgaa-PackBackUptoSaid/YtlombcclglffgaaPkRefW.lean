/- The reference's Num, Text, Bool and Write, by contracts. -/
import Derived.Test.YtlombcclglffgaaPkWrite
set_option linter.unusedVariables false
set_option linter.unusedSimpArgs false
namespace Go.Proofs.Ytlombcclglffgaa
open Go.RowKit PPackReads Go.Proofs.YtlombcclglffgaaW.PrintWords

/-- What the reference's Num answers. -/
def numW (n : Int) : List Nat := if 0 ≤ n ∧ n ≤ 4611686018427387904 then encN n.toNat else []
theorem numW_len (n : Int) : (numW n).length ≤ 9 := by
  unfold numW
  split
  · exact encN_len 8 _ (by omega)
  · simp
theorem refnum_any (n : Int) (w : World) : Calls Try.prog 30 #[.int .i64 n] w fun e w' => e = .returned (.string (bS (numW n))) ∧ Below w.heap.size w w' := by
  by_cases hn : 0 ≤ n ∧ n ≤ 4611686018427387904
  · obtain ⟨K, hK⟩ := numf n.toNat (by omega)
    have := hK K (Nat.le_refl _)
    rw [Int.toNat_of_nonneg hn.1] at this
    have h2 := carabinerref02_Num.calls K n _ w this
    unfold numW
    rw [if_pos hn]
    exact h2
  · have h2 : carabinerref02_Num.f 2 n = some (bS []) := by
      unfold carabinerref02_Num.f
      by_cases h0 : n < 0
      · rw [if_pos h0]
        rfl
      · rw [if_neg h0, show decide (n > 4611686018427387904) = true by simp; omega]
        rfl
    have h3 := carabinerref02_Num.calls 2 n _ w h2
    unfold numW
    rw [if_neg hn]
    exact h3

theorem bS_add (a b : List Nat) : bS a ++ bS b = bS (a ++ b) := by
  apply Go.WideShapes.bytes_inj
  unfold bS
  simp

set_option maxRecDepth 100000 in
theorem reftext_any (s : ByteArray) (w : World) (hs : s.size ≤ 65536) : Calls Try.prog 31 #[.string s] w fun e w' => e = .returned (.string (bS (encN s.size ++ sB s))) ∧ Below w.heap.size w w' := by
  have HN := refnum_any (s.size : Int) w
  have e1 : numW (s.size : Int) = encN s.size := by unfold numW; rw [if_pos (by omega), Int.toNat_natCast]
  rw [e1] at HN
  have hlen : (bS (encN s.size)).size ≤ 9 := by rw [bS_size]; exact encN_len 8 _ (by omega)
  have HN2 := Lib.hid HN
  clear HN e1
  go_enter Try.func31, Try.ntmps31
  go_wp2_with fail
  refine HN2.out.mono ?_
  rintro e w1 ⟨rfl, hb1⟩
  go_wp2_with fail
  go_ret
  refine ⟨?_, hb1⟩
  rw [← bS_add, bS_sB]
  rfl

set_option maxRecDepth 100000 in
theorem refbool_any (b : Bool) (w : World) : Calls Try.prog 32 #[.bool b] w fun e w' => e = .returned (.string (bS [b.toNat])) ∧ Below w.heap.size w w' := by
  cases b
  · go_enter Try.func32, Try.ntmps32
    go_wp2_with fail
    go_ret
    exact ⟨rfl, Ch.below (by (repeat (first | with_reducible assumption | with_reducible exact Ch.refl _ _ | with_reducible refine Ch.drew ?_ | with_reducible refine Ch.alloc ?_ _ | (with_reducible refine Ch.set' ?_ ?_; focus (first | (right; rfl; done) | (left; simp; done) | (left; simp; omega) | (left; omega) | (right; simp; done) | (right; simp; omega))))))⟩
  · go_enter Try.func32, Try.ntmps32
    go_wp2_with fail
    go_ret
    exact ⟨rfl, Ch.below (by (repeat (first | with_reducible assumption | with_reducible exact Ch.refl _ _ | with_reducible refine Ch.drew ?_ | with_reducible refine Ch.alloc ?_ _ | (with_reducible refine Ch.set' ?_ ?_; focus (first | (right; rfl; done) | (left; simp; done) | (left; simp; omega) | (left; omega) | (right; simp; done) | (right; simp; omega))))))⟩

/-- Write's loop. -/
def RefWIn (w : World) (ps : List PartD) (v3 v4 : Value) (wi : World) : Prop :=
  ∃ j, j ≤ ps.length ∧ v4 = .int .i64 (j : Nat) ∧ v3 = .string (bS (writeF (ps.take j))) ∧ Ch (fun _ => False) w wi

set_option maxRecDepth 100000 in
set_option maxHeartbeats 8000000 in
theorem refwrite_any (a : Option Addr) (cap : Nat) (ps : List PartD) (w : World) (ro : RowAt w a 5 PartD.out ps) (hc : room ps ≤ 70368744177664) (hs : ∀ p ∈ ps, p.s.size ≤ 65536) :
    Calls Try.prog 19 #[.slice a ps.length cap] w fun e w' => e = .returned (.string (bS (writeF ps))) ∧ Below w.heap.size w w' := by
  have HRO := Lib.hid ro
  have HC := Lib.hid hc
  have HS := Lib.hid hs
  have hpl : ps.length ≤ 70368744177664 := Nat.le_trans (length_room ps) hc
  clear ro hc hs
  go_enter Try.func19, Try.ntmps19
  go_wp2_with fail
  go_loopw [3, 4] (fun v3 v4 wi => RefWIn w ps v3 v4 wi) (fun _ i _ => ps.length - (intOf i).toNat)
  case atStart => exact ⟨0, Nat.zero_le _, rfl, rfl, Ch.refl _ _⟩
  case round =>
    obtain ⟨j, hj, rfl, rfl, C5⟩ := hrel
    have KC := Lib.hid C5
    clear C5
    by_cases hlt : j < ps.length
    · have ht : decide ((j : Int) < (ps.length : Int)) = true := by simpa using hlt
      have ht2 : decide (ps.length ≤ j) = false := by simpa using hlt
      obtain ⟨p, hp⟩ : ∃ p, ps[j]? = some p := ⟨_, List.getElem?_eq_getElem hlt⟩
      obtain ⟨b0, off, rfl, hb0, hcells⟩ := HRO.out j p hp
      have q0 : wr.cell? ⟨b0, off + j * 5, none⟩ = some (.int .i64 p.k) := (KC.out.below.cell (p := ⟨b0, _, none⟩) hb0).trans (hcells 0 _ rfl)
      have q1 : wr.cell? ⟨b0, off + j * 5 + 1, none⟩ = some (.int .i64 p.n) := (KC.out.below.cell (p := ⟨b0, _, none⟩) hb0).trans (hcells 1 _ rfl)
      have q2 : wr.cell? ⟨b0, off + j * 5 + 2, none⟩ = some (.int .i64 p.most) := (KC.out.below.cell (p := ⟨b0, _, none⟩) hb0).trans (hcells 2 _ rfl)
      have q3 : wr.cell? ⟨b0, off + j * 5 + 3, none⟩ = some (.string p.s) := (KC.out.below.cell (p := ⟨b0, _, none⟩) hb0).trans (hcells 3 _ rfl)
      have q4 : wr.cell? ⟨b0, off + j * 5 + 4, none⟩ = some (.bool p.is) := (KC.out.below.cell (p := ⟨b0, _, none⟩) hb0).trans (hcells 4 _ rfl)
      have hps := HS.out p (List.mem_of_getElem? hp)
      have HW := Lib.hid (writeF_snoc (ps.take j) p)
      rw [← take_snoc hp] at HW
      have hlen : (bS (writeF (ps.take j))).size ≤ 70368744177664 := by rw [bS_size]; exact Nat.le_trans (Nat.le_trans (writeF_len _) (room_take ps j)) HC.out
      obtain ⟨pre, hpre⟩ : ∃ pre, pre = bS (writeF (ps.take j)) := ⟨_, rfl⟩
      rw [← hpre] at hlen ⊢
      have HPre := Lib.hid hpre
      clear hcells hpre
      by_cases h0 : p.k = 0
      · have t0 : (p.k == 0) = true := by simp [h0]
        have HPW := Lib.hid (show (partW p).1 = numW p.n by unfold partW numW; rw [if_pos h0]; split <;> rfl)
        have HN := Lib.hid (refnum_any p.n wr)
        have hl2 : (bS (numW p.n)).size ≤ 9 := by rw [bS_size]; exact numW_len _
        clear h0
        go_wp2_with fail
        refine HN.out.mono ?_
        rintro e w1 ⟨rfl, hb1⟩
        have KC2 := Lib.hid (KC.out.call hb1)
        clear HN hb1
        go_wp2_with fail
        go_roundw
        case rel => exact ⟨j + 1, hlt, by simp, by rw [HW.out, HPW.out, HPre.out, bS_add], KC2.out⟩
        case measure => simp only [intOf]; omega
      by_cases h1 : p.k = 1
      · have t0 : (p.k == 0) = false := by simp [h0]
        have t1 : (p.k == 1) = true := by simp [h1]
        have HPW := Lib.hid (show (partW p).1 = encN p.s.size ++ sB p.s by unfold partW; rw [if_neg h0, if_pos h1, if_pos hps])
        have HN := Lib.hid (reftext_any p.s wr hps)
        have hl2 : (bS (encN p.s.size ++ sB p.s)).size ≤ 70000 := by
          have := encN_len 8 p.s.size (by omega)
          rw [bS_size, List.length_append, sB_length]
          omega
        clear h0 h1
        go_wp2_with fail
        refine HN.out.mono ?_
        rintro e w1 ⟨rfl, hb1⟩
        have KC2 := Lib.hid (KC.out.call hb1)
        clear HN hb1
        go_wp2_with fail
        go_roundw
        case rel => exact ⟨j + 1, hlt, by simp, by rw [HW.out, HPW.out, HPre.out, bS_add], KC2.out⟩
        case measure => simp only [intOf]; omega
      by_cases h2 : p.k = 2
      · have t0 : (p.k == 0) = false := by simp [h0]
        have t1 : (p.k == 1) = false := by simp [h1]
        have t2 : (p.k == 2) = true := by simp [h2]
        have HPW := Lib.hid (show (partW p).1 = [p.is.toNat] by unfold partW; rw [if_neg h0, if_neg h1, if_pos h2])
        have HN := Lib.hid (refbool_any p.is wr)
        have hl2 : (bS [p.is.toNat]).size ≤ 9 := by rw [bS_size]; simp
        clear h0 h1 h2
        go_wp2_with fail
        refine HN.out.mono ?_
        rintro e w1 ⟨rfl, hb1⟩
        have KC2 := Lib.hid (KC.out.call hb1)
        clear HN hb1
        go_wp2_with fail
        go_roundw
        case rel => exact ⟨j + 1, hlt, by simp, by rw [HW.out, HPW.out, HPre.out, bS_add], KC2.out⟩
        case measure => simp only [intOf]; omega
      · have t0 : (p.k == 0) = false := by simp [h0]
        have t1 : (p.k == 1) = false := by simp [h1]
        have t2 : (p.k == 2) = false := by simp [h2]
        have HPW := Lib.hid (show (partW p).1 = [] by unfold partW; rw [if_neg h0, if_neg h1, if_neg h2])
        clear h0 h1 h2
        go_wp2_with fail
        go_roundw
        case rel => exact ⟨j + 1, hlt, by simp, by rw [HW.out, HPW.out, List.append_nil, ← HPre.out], KC.out⟩
        case measure => simp only [intOf]; omega
    · have ht : decide ((j : Int) < (ps.length : Int)) = false := by simpa using hlt
      have ht2 : decide (ps.length ≤ j) = true := by simp; omega
      have hj2 : j = ps.length := by omega
      rw [hj2, List.take_length]
      go_wp2_with fail
      go_ret
      exact ⟨rfl, KC.out.below⟩
end Go.Proofs.Ytlombcclglffgaa
