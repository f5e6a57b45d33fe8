/- The reader's Num. -/
import Derived.Test.YthknfikjanoflaaPkN
import Derived.Lib.EndianBits
import Derived.WalkMore
set_option linter.unusedVariables false
set_option linter.unusedSimpArgs false
namespace Go.Proofs.Ythknfikjanoflaa
open Go.RowKit

theorem wrap64_id (n : Int) (h0 : 0 ≤ n) (h1 : n < 2^63) : wrap64 n = n := by unfold wrap64; omega
set_option maxRecDepth 100000 in
theorem and127 (b : Nat) (h : b < 256) : bits BinOp.and IntKind.u8 (b : Int) 127 = ((b % 128 : Nat) : Int) := by
  have : ∀ x : Fin 256, bits BinOp.and IntKind.u8 ((x.1 : Nat) : Int) 127 = ((x.1 % 128 : Nat) : Int) := by decide
  exact this ⟨b, h⟩
theorem i64_wrap (n : Int) (h0 : 0 ≤ n) (h1 : n < 2^63) : IntKind.i64.wrap n = n := by 
  simp [IntKind.wrap, IntKind.bits, IntKind.signed]; omega
theorem or_num (n b j : Nat) (hj : j ≤ 8) (hn : n < 128 ^ j) (hb : b < 256) : bits BinOp.or IntKind.i64 (n : Int) (wrap64 (wrap64 (bits BinOp.and IntKind.u8 (b : Int) 127) * 2 ^ (7 * j))) = ((n + (b % 128) * 128 ^ j : Nat) : Int) := by
  rw [and127 b hb, wrap64_id ((b % 128 : Nat) : Int) (by omega) (by omega)]
  have e : (128 : Nat) ^ j = 2 ^ (7 * j) := by rw [Nat.pow_mul]
  have hp : (2 : Nat) ^ (7 * j) ≤ 2 ^ 56 := Nat.pow_le_pow_right (by omega) (by omega)
  have hm : (b % 128) * 2 ^ (7 * j) ≤ 127 * 2 ^ 56 := Nat.mul_le_mul (by omega) hp
  have ec : (((b % 128 : Nat) : Int) * 2 ^ (7 * j)) = (((b % 128) * 2 ^ (7 * j) : Nat) : Int) := by push_cast; rfl
  rw [ec, wrap64_id _ (by omega) (by omega)]
  rw [bits_join_low IntKind.i64 63 (by decide) (fun n h0 h1 => i64_wrap n h0 h1) (7 * j) _ _ (by omega) (by rw [e] at hn; exact_mod_cast hn) (by rw [e] at hn; omega) (by omega) (by rw [← ec]; exact Int.mul_emod_left _ _) (by omega), e]
  push_cast
  rfl

/-- A number's bytes, from the j-th on, with what the earlier ones gave: the number, how many bytes were taken, the error. -/
def scan : Nat → Nat → List Nat → Nat × Nat × Int
  | _, _, [] => (0, 0, 20)
  | j, n, x :: l =>
    if x < 128 then (if x = 0 ∧ 0 < j then (0, 1, 21) else (n + x * 128 ^ j, 1, 0))
    else if j = 8 then (0, 1, 21)
    else ((scan (j + 1) (n + (x - 128) * 128 ^ j) l).1, (scan (j + 1) (n + (x - 128) * 128 ^ j) l).2.1 + 1, (scan (j + 1) (n + (x - 128) * 128 ^ j) l).2.2)

/-- What Num reads: the number, how many bytes, the error. -/
def numF (limit : Int) (l : List Nat) : Nat × Nat × Int :=
  if (scan 0 0 l).2.2 = 0 ∧ ((scan 0 0 l).1 ≤ 4611686018427387904 ∧ ((scan 0 0 l).1 : Int) ≤ limit) then ((scan 0 0 l).1, (scan 0 0 l).2.1, 0)
  else (0, (scan 0 0 l).2.1, if (scan 0 0 l).2.2 = 0 then 21 else (scan 0 0 l).2.2)

/-- At the head of Num's loop: j bytes are read. -/
def NumAt (w0 : World) (r g : Nat) (bs : List Nat) (k : Nat) (gk : Nat) (v5 v6 : Value) (w : World) : Prop :=
  ∃ j n, j + gk = 9 ∧ j ≤ 8 ∧ n < 128 ^ j ∧ v5 = .int .i64 (n : Nat) ∧ v6 = .int .i64 (j : Nat) ∧ Rd w r g bs (k + j) 0 ∧ Blk w w0.heap.size #[.pointer (some ⟨r, 0, none⟩)] 56 ∧
    scan 0 0 (bs.drop k) = ((scan j n (bs.drop (k + j))).1, (scan j n (bs.drop (k + j))).2.1 + j, (scan j n (bs.drop (k + j))).2.2) ∧ Ch (· = r) w0 w

/-- What Num does. -/
def NumPost (r g : Nat) (bs : List Nat) (k : Nat) (limit : Int) (w : World) (x : Ending) (w' : World) : Prop :=
  x = .returned (.int .i64 ((numF limit (bs.drop k)).1 : Nat)) ∧ Rd w' r g bs (k + (numF limit (bs.drop k)).2.1) (numF limit (bs.drop k)).2.2 ∧ Ch (· = r) w w'

theorem drop_at {bs : List Nat} {i b : Nat} (h : bs[i]? = some b) : bs.drop i = b :: bs.drop (i + 1) := by
  obtain ⟨hi, rfl⟩ := List.getElem?_eq_some_iff.1 h
  exact List.drop_eq_getElem_cons hi
theorem numF_err {limit : Int} {l : List Nat} {v c : Nat} {e : Int} (h : scan 0 0 l = (v, c, e)) (he : e ≠ 0) : numF limit l = (0, c, e) := by
  unfold numF
  rw [h]
  simp [he]
theorem numF_ok {limit : Int} {l : List Nat} {v c : Nat} (h : scan 0 0 l = (v, c, 0)) (h1 : v ≤ 4611686018427387904) (h2 : (v : Int) ≤ limit) : numF limit l = (v, c, 0) := by
  unfold numF
  rw [h]
  simp [h1, h2]
theorem numF_form {limit : Int} {l : List Nat} {v c : Nat} (h : scan 0 0 l = (v, c, 0)) (h1 : ¬ (v ≤ 4611686018427387904 ∧ (v : Int) ≤ limit)) : numF limit l = (0, c, 21) := by
  unfold numF
  rw [h]
  simp only [h1, and_false, if_false, if_true]
theorem NumPost.of {r g : Nat} {bs : List Nat} {k : Nat} {limit : Int} {w w' : World} {x : Ending} {v c : Nat} {e : Int} (h : numF limit (bs.drop k) = (v, c, e)) (hx : x = .returned (.int .i64 (v : Nat))) (hr : Rd w' r g bs (k + c) e) (hc : Ch (· = r) w w') : NumPost r g bs k limit w x w' := by
  unfold NumPost
  rw [h]
  exact ⟨hx, hr, hc⟩
theorem scan_form {j n b : Nat} {l : List Nat} (h : (b = 0 ∧ 0 < j) ∨ (128 ≤ b ∧ j = 8)) : scan j n (b :: l) = (0, 1, 21) := by
  unfold scan
  rcases h with ⟨rfl, hj⟩ | ⟨hb, rfl⟩
  · simp [hj]
  · rw [if_neg (by omega), if_pos rfl]
theorem scan_done {j n b : Nat} {l : List Nat} (h : b < 128) (h2 : ¬ (b = 0 ∧ 0 < j)) : scan j n (b :: l) = (n + (b % 128) * 128 ^ j, 1, 0) := by
  unfold scan
  rw [if_pos h, if_neg h2, Nat.mod_eq_of_lt h]
theorem scan_more {j n b : Nat} {l : List Nat} (h : 128 ≤ b) (hb : b < 256) (h2 : j ≠ 8) : scan j n (b :: l) = ((scan (j + 1) (n + (b % 128) * 128 ^ j) l).1, (scan (j + 1) (n + (b % 128) * 128 ^ j) l).2.1 + 1, (scan (j + 1) (n + (b % 128) * 128 ^ j) l).2.2) := by
  have e : b % 128 = b - 128 := by omega
  rw [e]
  conv => lhs; unfold scan
  rw [if_neg (by omega), if_neg h2]

theorem next_enter (caps : Array Value) (w : World) : (callFunc 43 caps).run Try.prog w = .ok (.enter 43 caps) w := by go_simp

attribute [local go_sem] by8
set_option maxRecDepth 100000 in
set_option maxHeartbeats 4000000 in
theorem num_ok (r g : Nat) (bs : List Nat) (k : Nat) (limit : Int) (w : World) (h : Rd w r g bs k 0) (hb : ∀ b ∈ bs, b < 256) (hlen : bs.length ≤ maxLen) :
    Calls Try.prog 33 #[.pointer (some ⟨r, 0, none⟩), .int .i64 limit] w (NumPost r g bs k limit w) := by
  have H1 := Lib.hid (h.alloc (.cells #[.pointer (some ⟨r, 0, none⟩)] 56))
  have H2 := Lib.hid (Blk.new w #[.pointer (some ⟨r, 0, none⟩)] 56)
  have H3 := Lib.hid ((Ch.refl (· = r) w).alloc (.cells #[.pointer (some ⟨r, 0, none⟩)] 56))
  have HB := Lib.hid hb
  have hlts := h.lt
  have hmf : ∀ (fn : Fn) (first cap : Array Value) (w : World), (Instr.makeFunc fn first cap).run Try.prog w = .ok (.func fn first cap) w := fun _ _ _ _ => rfl
  clear h hb
  go_enter Try.func33, Try.ntmps33
  go_wp2_with fail
  go_step3
  go_wp2_with fail
  go_step3
  go_wp2_with fail
  go_loopg [5, 6] 9 (fun gk v5 v6 wr => NumAt w r g bs k gk v5 v6 wr)
  case atStart => exact ⟨0, 0, rfl, by omega, by simp, rfl, rfl, H1.out, H2.out, by simp, H3.out⟩
  case round =>
    obtain ⟨j, n, hj, hj8, hn, rfl, rfl, R, B, hs, C⟩ := hrel
    have HS := Lib.hid hs
    by_cases hkl : k + j < bs.length
    · have HN := Lib.hid (next_ok w.heap.size r g bs (k + j) wr R B hkl hlen)
      have HBB := Lib.hid B
      have HC := Lib.hid C
      have hne : w.heap.size ≠ r := by omega
      clear R B hs C
      go_wp2_with fail
      refine HN.out.mono ?_
      rintro x w2 ⟨⟨b, hbk, rfl⟩, R2, c2⟩
      have HR2 := Lib.hid R2
      have HC2 := Lib.hid (HC.out.trans c2)
      have HBB2 := Lib.hid (HBB.out.ch c2 hne)
      have hb8 : b < 256 := HB.out b (List.mem_of_getElem? hbk)
      have HBK := Lib.hid hbk
      clear R2 c2 HN HC HBB hbk
      obtain ⟨q1, q2⟩ := HBB2.out.cells
      obtain ⟨n2, hn2⟩ : ∃ n2, n2 = n + (b % 128) * 128 ^ j := ⟨_, rfl⟩
      have hval := or_num n b j hj8 hn hb8
      rw [← hn2] at hval
      have HN2 := Lib.hid hn2
      clear hn2
      by_cases hx : b < 128
      · have hx1 : decide ((b : Int) < 128) = true := by simp; omega
        have hx2 : decide (b < 128) = true := by simp; omega
        by_cases hj0 : 0 < j
        · have hj1 : decide (1 < (j : Int) + 1) = true := by simp; omega
          by_cases hb0 : b = 0
          · subst hb0
            have HF := Lib.hid (rfail r g bs (k + j + 1) 0 21 w2 HR2.out)
            go_wp2_with fail
            refine HF.out.mono ?_
            rintro x w3 ⟨rfl, R3, c3⟩
            have HR3 := Lib.hid R3
            have HC3 := Lib.hid (HC2.out.trans c3)
            clear R3 c3
            go_wp2_with fail
            go_ret
            refine NumPost.of (numF_err (e := 21) (HS.out.trans (by rw [drop_at HBK.out, scan_form (.inl ⟨rfl, hj0⟩)])) (by decide)) rfl ?_ HC3.out
            have := HR3.out
            rw [show k + (1 + j) = k + j + 1 by omega]
            simpa using this
          · have hb1 : ((b : Int) == 0) = false := by simp; omega
            have hsc : scan 0 0 (bs.drop k) = (n2, 1 + j, 0) := by
              rw [HS.out, drop_at HBK.out, scan_done hx (by omega), HN2.out]
            have HSC := Lib.hid hsc
            have R3 := Lib.hid (HR2.out.alloc (.cells #[.int .i64 (n2 : Int)] 3))
            have C3 := Lib.hid (HC2.out.alloc (.cells #[.int .i64 (n2 : Int)] 3))
            have B3 := Lib.hid (HBB2.out.alloc (.cells #[.int .i64 (n2 : Int)] 3))
            have HRT := right_one w2.heap.size (n2 : Int) 3 _ (Blk.new w2 #[.int .i64 (n2 : Int)] 3)
            clear hsc HR2 HC2 HBB2 q1 q2 HS
            by_cases h62 : n2 ≤ 4611686018427387904
            · rw [show (decide (0 ≤ (n2 : Int)) && decide ((n2 : Int) ≤ 4611686018427387904)) = true by simp; omega] at HRT
              have HRT' := Lib.hid HRT
              clear HRT
              by_cases hlim : (n2 : Int) ≤ limit
              · have hl1 : decide (limit < (n2 : Int)) = false := by simp; omega
                go_wp2_with fail
                refine HRT'.out.mono ?_
                rintro x w3 ⟨rfl, hb3⟩
                have R4 := Lib.hid (R3.out.below hb3)
                have C4 := Lib.hid (C3.out.call hb3)
                go_wp2_with fail
                go_ret
                refine NumPost.of (numF_ok HSC.out h62 hlim) rfl ?_ C4.out
                have := R4.out
                rw [show k + (1 + j) = k + j + 1 by omega]
                exact this
              · have hl1 : decide (limit < (n2 : Int)) = true := by simp; omega
                go_wp2_with fail
                refine HRT'.out.mono ?_
                rintro x w3 ⟨rfl, hb3⟩
                have R4 := R3.out.below hb3
                have C4 := Lib.hid (C3.out.call hb3)
                obtain ⟨q1, q2⟩ := (B3.out.below hb3).cells
                have HF := Lib.hid (rfail r g bs (k + j + 1) 0 21 w3 R4)
                clear R4
                go_wp2_with fail
                refine HF.out.mono ?_
                rintro x w4 ⟨rfl, R5, c5⟩
                have HR5 := Lib.hid R5
                have HC5 := Lib.hid (C4.out.trans c5)
                clear R5 c5
                go_wp2_with fail
                go_ret
                refine NumPost.of (numF_form HSC.out (by omega)) rfl ?_ HC5.out
                have := HR5.out
                rw [show k + (1 + j) = k + j + 1 by omega]
                simpa using this
            · rw [show (decide (0 ≤ (n2 : Int)) && decide ((n2 : Int) ≤ 4611686018427387904)) = false by simp; omega] at HRT
              have HRT' := Lib.hid HRT
              clear HRT
              go_wp2_with fail
              refine HRT'.out.mono ?_
              rintro x w3 ⟨rfl, hb3⟩
              have R4 := R3.out.below hb3
              have C4 := Lib.hid (C3.out.call hb3)
              obtain ⟨q1, q2⟩ := (B3.out.below hb3).cells
              have HF := Lib.hid (rfail r g bs (k + j + 1) 0 21 w3 R4)
              clear R4
              go_wp2_with fail
              refine HF.out.mono ?_
              rintro x w4 ⟨rfl, R5, c5⟩
              have HR5 := Lib.hid R5
              have HC5 := Lib.hid (C4.out.trans c5)
              clear R5 c5
              go_wp2_with fail
              go_ret
              refine NumPost.of (numF_form HSC.out (by omega)) rfl ?_ HC5.out
              have := HR5.out
              rw [show k + (1 + j) = k + j + 1 by omega]
              simpa using this
        · have hj1 : decide (1 < (j : Int) + 1) = false := by simp; omega
          have hsc : scan 0 0 (bs.drop k) = (n2, 1 + j, 0) := by
            rw [HS.out, drop_at HBK.out, scan_done hx (by omega), HN2.out]
          have HSC := Lib.hid hsc
          have R3 := Lib.hid (HR2.out.alloc (.cells #[.int .i64 (n2 : Int)] 3))
          have C3 := Lib.hid (HC2.out.alloc (.cells #[.int .i64 (n2 : Int)] 3))
          have B3 := Lib.hid (HBB2.out.alloc (.cells #[.int .i64 (n2 : Int)] 3))
          have HRT := right_one w2.heap.size (n2 : Int) 3 _ (Blk.new w2 #[.int .i64 (n2 : Int)] 3)
          clear hsc HR2 HC2 HBB2 q1 q2 HS
          by_cases h62 : n2 ≤ 4611686018427387904
          · rw [show (decide (0 ≤ (n2 : Int)) && decide ((n2 : Int) ≤ 4611686018427387904)) = true by simp; omega] at HRT
            have HRT' := Lib.hid HRT
            clear HRT
            by_cases hlim : (n2 : Int) ≤ limit
            · have hl1 : decide (limit < (n2 : Int)) = false := by simp; omega
              go_wp2_with fail
              refine HRT'.out.mono ?_
              rintro x w3 ⟨rfl, hb3⟩
              have R4 := Lib.hid (R3.out.below hb3)
              have C4 := Lib.hid (C3.out.call hb3)
              go_wp2_with fail
              go_ret
              refine NumPost.of (numF_ok HSC.out h62 hlim) rfl ?_ C4.out
              have := R4.out
              rw [show k + (1 + j) = k + j + 1 by omega]
              exact this
            · have hl1 : decide (limit < (n2 : Int)) = true := by simp; omega
              go_wp2_with fail
              refine HRT'.out.mono ?_
              rintro x w3 ⟨rfl, hb3⟩
              have R4 := R3.out.below hb3
              have C4 := Lib.hid (C3.out.call hb3)
              obtain ⟨q1, q2⟩ := (B3.out.below hb3).cells
              have HF := Lib.hid (rfail r g bs (k + j + 1) 0 21 w3 R4)
              clear R4
              go_wp2_with fail
              refine HF.out.mono ?_
              rintro x w4 ⟨rfl, R5, c5⟩
              have HR5 := Lib.hid R5
              have HC5 := Lib.hid (C4.out.trans c5)
              clear R5 c5
              go_wp2_with fail
              go_ret
              refine NumPost.of (numF_form HSC.out (by omega)) rfl ?_ HC5.out
              have := HR5.out
              rw [show k + (1 + j) = k + j + 1 by omega]
              simpa using this
          · rw [show (decide (0 ≤ (n2 : Int)) && decide ((n2 : Int) ≤ 4611686018427387904)) = false by simp; omega] at HRT
            have HRT' := Lib.hid HRT
            clear HRT
            go_wp2_with fail
            refine HRT'.out.mono ?_
            rintro x w3 ⟨rfl, hb3⟩
            have R4 := R3.out.below hb3
            have C4 := Lib.hid (C3.out.call hb3)
            obtain ⟨q1, q2⟩ := (B3.out.below hb3).cells
            have HF := Lib.hid (rfail r g bs (k + j + 1) 0 21 w3 R4)
            clear R4
            go_wp2_with fail
            refine HF.out.mono ?_
            rintro x w4 ⟨rfl, R5, c5⟩
            have HR5 := Lib.hid R5
            have HC5 := Lib.hid (C4.out.trans c5)
            clear R5 c5
            go_wp2_with fail
            go_ret
            refine NumPost.of (numF_form HSC.out (by omega)) rfl ?_ HC5.out
            have := HR5.out
            rw [show k + (1 + j) = k + j + 1 by omega]
            simpa using this
      · have hx1 : decide ((b : Int) < 128) = false := by simp; omega
        have hx2 : decide (b < 128) = false := by simp; omega
        have hj2 : decide (128 ≤ b) = true := by simp; omega
        by_cases hj8' : j = 8
        · have hj1 : ((j : Int) + 1 == 9) = true := by simp; omega
          have HF := Lib.hid (rfail r g bs (k + j + 1) 0 21 w2 HR2.out)
          go_wp2_with fail
          refine HF.out.mono ?_
          rintro x w3 ⟨rfl, R3, c3⟩
          have HR3 := Lib.hid R3
          have HC3 := Lib.hid (HC2.out.trans c3)
          clear R3 c3
          go_wp2_with fail
          go_ret
          refine NumPost.of (numF_err (e := 21) (HS.out.trans (by rw [drop_at HBK.out, scan_form (.inr ⟨by omega, hj8'⟩)])) (by decide)) rfl ?_ HC3.out
          have := HR3.out
          rw [show k + (1 + j) = k + j + 1 by omega]
          simpa using this
        · have hj1 : ((j : Int) + 1 == 9) = false := by simp; omega
          go_wp2_with fail
          go_roundg (gk - 1)
          case measure => omega
          case rel =>
            have hlt : n2 < 128 ^ (j + 1) := by
              rw [HN2.out, Nat.pow_succ]
              have : (b % 128) * 128 ^ j ≤ 127 * 128 ^ j := Nat.mul_le_mul_right _ (by omega)
              omega
            refine ⟨j + 1, n2, by omega, by omega, hlt, rfl, by simp, HR2.out, HBB2.out, ?_, HC2.out⟩
            rw [HS.out, drop_at HBK.out, scan_more (by omega) hb8 hj8', ← HN2.out]
            simp only [Nat.add_assoc, Nat.add_comm]
    · have hkl' : k + j = bs.length := by have := R.le; omega
      have HN := next_bad w.heap.size r g bs (k + j) 0 wr R B (.inr hkl')
      rw [if_pos rfl] at HN
      have HN' := Lib.hid HN
      have HC := Lib.hid C
      clear R B hs C HN
      go_wp2_with fail
      refine HN'.out.mono ?_
      rintro x w2 ⟨rfl, R2, c2⟩
      have HR2 := Lib.hid R2
      have HC2 := Lib.hid (HC.out.trans c2)
      clear R2 c2 HN' HC
      go_wp2_with fail
      go_ret
      refine NumPost.of (c := j) (numF_err (e := 20) (v := 0) (HS.out.trans (by rw [List.drop_eq_nil_of_le (by omega)]; simp [scan])) (by decide)) rfl HR2.out HC2.out
end Go.Proofs.Ythknfikjanoflaa
