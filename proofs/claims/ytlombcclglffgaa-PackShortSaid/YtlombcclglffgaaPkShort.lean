/- PackShort: the walk. -/
import Derived.Test.YtlombcclglffgaaPkAlive
import Derived.Test.YtlombcclglffgaaPkLaw
namespace Go.Proofs.Ytlombcclglffgaa
open Go.RowKit

/-- What Num hands back of any number behind nothing. -/
def NumW (n : Int) (w : World) (e : Ending) (w' : World) : Prop :=
  (∃ v bs, e = .returned (.tuple #[v, .bool (decide (0 ≤ n) && decide (n ≤ 4611686018427387904))]) ∧ BRow w' w.heap.size v bs ∧ (bs = if (decide (0 ≤ n) && decide (n ≤ 4611686018427387904)) = true then encN n.toNat else [])) ∧ Below w.heap.size w w'

theorem numw_any (b : Nat) (n : Int) (w : World) (h : Blk w b #[.int .i64 n] 3) : Calls Try.prog 10 #[.slice none 0 0, .slice (some ⟨b, 0, none⟩) 1 1] w (NumW n w) := by
  unfold NumW
  cases hn : decide (0 ≤ n) && decide (n ≤ 4611686018427387904) with
  | false =>
    refine (enc_bad b _ n w h hn).mono ?_
    rintro e w' ⟨rfl, hb⟩
    exact ⟨⟨_, [], rfl, BRow.nil _ _, by simp⟩, hb⟩
  | true =>
    simp at hn
    obtain ⟨k, rfl⟩ : ∃ k : Nat, n = (k : Int) := ⟨n.toNat, by omega⟩
    refine (enc_ok w.heap.size b _ [] k w h (BRow.nil _ _) (Nat.le_refl _) (by omega) (by simp)).mono ?_
    rintro e w' ⟨v, rfl, R, _, c⟩
    exact ⟨⟨v, _, rfl, R, by simp⟩, (c.mono (S' := fun _ => False) (fun k e => by simp [Value.ownBlock] at e)).below⟩

theorem bS_inj {l l' : List Nat} (h : ∀ b ∈ l, b < 256) (h' : ∀ b ∈ l', b < 256) (e : bS l = bS l') : l = l' := by rw [← sB_bS h, ← sB_bS h', e]

set_option maxRecDepth 100000 in
set_option maxHeartbeats 4000000 in
theorem short_row (a b : Int) (w : World) (_ : (Lit.int .i64 a).wf = true) (_ : (Lit.int .i64 b).wf = true) :
    Calls Try.prog 4 #[.int .i64 a, .int .i64 b] w fun e w' => e = .returned (.bool true) ∧ Below w.heap.size w w' := by
  have H1 := Lib.hid (numw_any w.heap.size a (w.alloc (.cells #[.int .i64 a] 3)) (Blk.new w _ _))
  obtain ⟨ga, hga⟩ : ∃ ga, ga = (decide (0 ≤ a) && decide (a ≤ 4611686018427387904)) := ⟨_, rfl⟩
  obtain ⟨gb, hgb⟩ : ∃ gb, gb = (decide (0 ≤ b) && decide (b ≤ 4611686018427387904)) := ⟨_, rfl⟩
  have HGA := Lib.hid hga
  have HGB := Lib.hid hgb
  clear hga hgb
  go_enter Try.func4, Try.ntmps4
  go_wp2_with fail
  refine H1.out.mono ?_
  rintro e w1 ⟨⟨v1, x, rfl, R1, hx⟩, hb1⟩
  rw [← HGA.out] at hx ⊢
  have C1 := Lib.hid (((Ch.refl (fun _ => False) w).alloc (.cells #[.int .i64 a] 3)).call hb1)
  have HR1 := Lib.hid R1
  have HX := Lib.hid hx
  have H2 := Lib.hid (numw_any w1.heap.size b (w1.alloc (.cells #[.int .i64 b] 3)) (Blk.new w1 _ _))
  clear H1 R1 hx hb1
  go_wp2_with fail
  refine H2.out.mono ?_
  rintro e w2 ⟨⟨v2, y, rfl, R2, hy⟩, hb2⟩
  rw [← HGB.out] at hy ⊢
  have C2 := Lib.hid ((C1.out.alloc (.cells #[.int .i64 b] 3)).call hb2)
  have HR1' := Lib.hid ((HR1.out.below (below1 w1 (.cells #[.int .i64 b] 3))).below hb2)
  have HR2 := Lib.hid R2
  have HY := Lib.hid hy
  clear H2 R2 hy hb2 C1 HR1
  obtain ⟨a1, cap1, rfl, _⟩ := HR1'.out.at
  obtain ⟨a2, cap2, rfl, _⟩ := HR2.out.at
  cases ga with
  | false =>
    have ex : x = [] := by simpa using HX.out
    subst ex
    cases gb with
    | false =>
      have ey : y = [] := by simpa using HY.out
      subst ey
      clear HX HY HR1' HR2
      go_wp2_with fail
      refine (alive_any _).mono ?_
      rintro e w5 ⟨rfl, hb5⟩
      go_wp2_with fail
      go_ret
      exact ⟨rfl, (C2.out.call hb5).below⟩
    | true =>
      clear HX HY HR1' HR2
      go_wp2_with fail
      refine (alive_any _).mono ?_
      rintro e w5 ⟨rfl, hb5⟩
      go_wp2_with fail
      go_ret
      exact ⟨rfl, (C2.out.call hb5).below⟩
  | true =>
    cases gb with
    | false =>
      have ey : y = [] := by simpa using HY.out
      subst ey
      clear HX HY HR1' HR2
      go_wp2_with fail
      refine (alive_any _).mono ?_
      rintro e w5 ⟨rfl, hb5⟩
      go_wp2_with fail
      go_ret
      exact ⟨rfl, (C2.out.call hb5).below⟩
    | true =>
      have ga' := HGA.out
      have gb' := HGB.out
      simp at ga' gb'
      obtain ⟨m, rfl⟩ : ∃ m : Nat, a = (m : Int) := ⟨a.toNat, by omega⟩
      obtain ⟨n, rfl⟩ : ∃ n : Nat, b = (n : Int) := ⟨b.toNat, by omega⟩
      have ex : x = encN m := by simpa using HX.out
      have ey : y = encN n := by simpa using HY.out
      have hm : m ≤ 4611686018427387904 := by omega
      have hn : n ≤ 4611686018427387904 := by omega
      have l1 : decide ((1 : Int) ≤ (x.length : Int)) = true := by have := encN_pos m; rw [ex]; simp; omega
      have l2 : decide ((x.length : Int) ≤ 9) = true := by have := encN_len 8 m (by omega); rw [ex]; simp; omega
      have X1 : ∀ c ∈ x, c < 256 := by rw [ex]; exact encN_lt m
      have Y1 : ∀ c ∈ y, c < 256 := by rw [ey]; exact encN_lt n
      have HL : Hid (m ≤ n → decide (x.length ≤ y.length) = true) := Lib.hid (fun h => by have := encN_mono m n h; rw [ex, ey]; simp; omega)
      have HEQ : Hid (m = n ↔ bS x = bS y) := Lib.hid ⟨fun h => by rw [ex, ey, h], fun h => encN_inj hm hn (by rw [← ex, ← ey]; exact bS_inj X1 Y1 h)⟩
      clear ga' gb' ex ey HX HY HGA HGB hm hn
      have HX1 := Lib.hid X1
      have HY1 := Lib.hid Y1
      obtain ⟨sx, hsx⟩ : ∃ sx, sx = bS x := ⟨_, rfl⟩
      obtain ⟨sy, hsy⟩ : ∃ sy, sy = bS y := ⟨_, rfl⟩
      have HSX := Lib.hid hsx
      have HSY := Lib.hid hsy
      clear X1 Y1 hsx hsy
      have hne : Hid (m ≠ n → (sx.toList == sy.toList) = false) := Lib.hid (fun h => by
        have : sx ≠ sy := by rw [HSX.out, HSY.out]; exact fun e => h (HEQ.out.2 e)
        rw [ByteArray.toList_eq, ByteArray.toList_eq]
        simp
        exact fun e => this (Go.WideShapes.bytes_inj (by rw [e])))
      by_cases hab : n < m
      · have h1 : decide ((n : Int) < (m : Int)) = true := by simp; omega
        have h2 : ((m : Int) == (n : Int)) = false := by simp; omega
        have h3 := hne.out (by omega)
        go_wp2_with fail
        refine (alive_any _).mono ?_
        rintro e w5 ⟨rfl, hb5⟩
        have t1 := brow_string (HR1'.out.below hb5) HX1.out
        have t2 := brow_string (HR2.out.below hb5) HY1.out
        rw [← HSX.out] at t1
        rw [← HSY.out] at t2
        go_wp2_with fail
        go_ret
        exact ⟨rfl, (C2.out.call hb5).below⟩
      · have h1 : decide ((n : Int) < (m : Int)) = false := by simp; omega
        have h4 := HL.out (by omega)
        by_cases heq : m = n
        · subst heq
          have h5 : sy = sx := by rw [HSX.out, HSY.out]; exact (HEQ.out.1 rfl).symm
          subst h5
          go_wp2_with fail
          refine (alive_any _).mono ?_
          rintro e w5 ⟨rfl, hb5⟩
          have t1 := brow_string (HR1'.out.below hb5) HX1.out
          have t2 := brow_string (HR2.out.below hb5) HY1.out
          rw [← HSX.out] at t1
          rw [← HSY.out] at t2
          go_wp2_with fail
          go_ret
          exact ⟨rfl, (C2.out.call hb5).below⟩
        · have h2 : ((m : Int) == (n : Int)) = false := by simp; omega
          have h3 := hne.out heq
          go_wp2_with fail
          refine (alive_any _).mono ?_
          rintro e w5 ⟨rfl, hb5⟩
          have t1 := brow_string (HR1'.out.below hb5) HX1.out
          have t2 := brow_string (HR2.out.below hb5) HY1.out
          rw [← HSX.out] at t1
          rw [← HSY.out] at t2
          go_wp2_with fail
          go_ret
          exact ⟨rfl, (C2.out.call hb5).below⟩
end Go.Proofs.Ytlombcclglffgaa
