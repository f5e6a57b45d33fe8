/- index's reference: Trimmed. -/
import Derived.Test.YtpcocmdhdnfjcaaIv
set_option linter.unusedVariables false
set_option linter.unusedSimpArgs false
namespace Go.Proofs.Ytpcocmdhdnfjcaa
open Go.RowKit

/-- Trimmed's loop. -/
def TrIn (w0 : World) (b : Nat) (L : List It) (t : Int) (v7 v8 : Value) (wi : World) : Prop := ∃ k : Nat, v8 = .int .i64 (k : Int) ∧ k ≤ L.length ∧ v7 = .bool (trimD (L.take k) t).2 ∧ Blk wi b #[.int .i64 (trimD (L.take k) t).1.1, .int .i64 (trimD (L.take k) t).1.2] 29 ∧ Ch (· = b) w0 wi
theorem trimD_take {L : List It} {k : Nat} {i : It} (h : L[k]? = some i) (t : Int) : trimD (L.take (k + 1)) t = trimS t (trimD (L.take k) t) i := by
  rw [List.take_add_one, h]
  exact trimD_snoc _ _ _
attribute [local go_sem high] eqId eqSeq
set_option maxRecDepth 100000 in
set_option maxHeartbeats 8000000 in
theorem rtrimmed_any {S : Nat → Prop} {v : Value} (l : List (It × Value)) (t : Int) (w : World) (h : ItsAt S w v l) (hm : l.length ≤ 4194304) :
    Calls Try.prog 30 #[docV v, .int .i64 t] w fun e w' => e = .returned (.tuple #[plV (trimD (its l) t).1, .bool (trimD (its l) t).2]) ∧ Below w.heap.size w w' := by
  have hb0 : Below w.heap.size w (((w.alloc (.cells #[v] 48)).alloc (.cells #[.int .i64 0, .int .i64 0] 29)).alloc (.cells #[.int .i64 0, .int .i64 0] 29)) := Ch.below (by (repeat (first | with_reducible assumption | with_reducible exact Ch.refl _ _ | with_reducible refine Ch.drew ?_ | with_reducible refine Ch.alloc ?_ _ | (with_reducible refine Ch.set' ?_ ?_; focus (first | (right; rfl; done) | (left; simp; done) | (left; simp; omega) | (left; omega) | (right; simp; done) | (right; simp; omega))))))
  have B1 := ((Blk.new w #[v] 48).alloc (.cells #[.int .i64 0, .int .i64 0] 29)).alloc (.cells #[.int .i64 0, .int .i64 0] 29)
  have B2 := (Blk.new (w.alloc (.cells #[v] 48)) #[.int .i64 0, .int .i64 0] 29).alloc (.cells #[.int .i64 0, .int .i64 0] 29)
  have B3 := (Blk.new ((w.alloc (.cells #[v] 48)).alloc (.cells #[.int .i64 0, .int .i64 0] 29)) #[.int .i64 0, .int .i64 0] 29)
  rw [show (w.alloc (.cells #[v] 48)).heap.size = w.heap.size + 1 by simp] at B2
  rw [show ((w.alloc (.cells #[v] 48)).alloc (.cells #[.int .i64 0, .int .i64 0] 29)).heap.size = w.heap.size + 1 + 1 by simp] at B3
  obtain ⟨w0, hw0⟩ : ∃ w0, w0 = (((w.alloc (.cells #[v] 48)).alloc (.cells #[.int .i64 0, .int .i64 0] 29)).alloc (.cells #[.int .i64 0, .int .i64 0] 29)) := ⟨_, rfl⟩
  rw [← hw0] at hb0 B1 B2 B3
  have HV := Lib.hid (h.old.below hb0)
  obtain ⟨a, cap, rfl, _, _⟩ := h.row.slice
  have HB := Lib.hid hb0
  have HB1 := Lib.hid B1
  have HB2 := Lib.hid B2
  have HB3 := Lib.hid B3
  have HM := Lib.hid hm
  have hll : (its l).length = l.length := by simp [its]
  have HLL := Lib.hid hll
  unfold docV
  clear h hm hb0 B1 B2 B3 hll
  go_enter Try.func30, Try.ntmps30
  go_wp2_with fail
  rw [← hw0]
  clear hw0
  go_loopw [7, 8] (fun v7 v8 wi => TrIn w0 (w.heap.size + 1 + 1) (its l) t v7 v8 wi) (fun _ i _ => l.length - (intOf i).toNat)
  case atStart => exact ⟨0, rfl, Nat.zero_le _, rfl, HB3.out, Ch.refl _ _⟩
  case round =>
    obtain ⟨k, rfl, hk, rfl, hB, hC⟩ := hrel
    have HBk := Lib.hid hB
    have HC := Lib.hid hC
    have HV2 := Lib.hid (HV.out.ch hC (fun j e e2 => by omega))
    have HB1k := Lib.hid (HB1.out.ch hC (by omega))
    obtain ⟨q1, q2⟩ := HB1k.out.cells
    have l1 := HB1k.out.lt
    rw [HLL.out] at hk
    obtain ⟨⟨⟨sa, sb⟩, sis⟩, hs⟩ : ∃ q, trimD ((its l).take k) t = q := ⟨_, rfl⟩
    rw [hs] at HBk hB
    rw [hs]
    have HS := Lib.hid hs
    clear hB hC hs
    by_cases hlt : k < l.length
    · have ht : decide ((k : Int) < (l.length : Int)) = true := by simpa using hlt
      obtain ⟨⟨i, tv⟩, hp⟩ : ∃ p, l[k]? = some p := ⟨_, List.getElem?_eq_getElem hlt⟩
      obtain ⟨g, off, cap2, e, hg, hS, htv, c0, c1, c2, c3, c4, c5, c6, c7, c8, c9, c10, c11⟩ := HV2.out.item hp
      cases e
      have hpi : (its l)[k]? = some i := by unfold its; rw [List.getElem?_map, hp]; rfl
      have htk := trimD_take hpi t
      rw [HS.out] at htk
      unfold trimS at htk
      obtain ⟨bb, hbb⟩ : ∃ bb, trimsD t ((sa, sb), sis) i = bb := ⟨_, rfl⟩
      rw [hbb] at htk
      have HTK := Lib.hid htk
      unfold trimsD at hbb
      simp only at hbb
      have HW2 := Lib.hid (show wrap64 ((k : Int) + 1) = (k : Int) + 1 from IntWalk.wrap64_in _ (by have := HM.out; omega))
      have HLT := Lib.hid hlt
      have D0 := Lib.hid (fun y : Later wr => (y.h.cell (cell_spot c0).2).trans c0)
      have D7 := Lib.hid (fun y : Later wr => (y.h.cell (cell_spot c7).2).trans c7)
      have D8 := Lib.hid (fun y : Later wr => (y.h.cell (cell_spot c8).2).trans c8)
      have D9 := Lib.hid (fun y : Later wr => (y.h.cell (cell_spot c9).2).trans c9)
      have hgn : ¬ (g = w.heap.size + 1 + 1) := by omega
      have HGN := Lib.hid hgn
      have HLS := Lib.hid (fun y : Later wr => rless_any (sa, sb) i.upto y.w)
      clear hp hpi htv c0 c1 c2 c3 c4 c5 c6 c7 c8 c9 c10 c11 hlt hg hS htk hgn
      go_wp2_with fail
      go_cut [46] (fun v46 wx => v46 = .bool bb ∧ Below wr.heap.size wr wx)
      case first =>
        have d0 := D0.out
        have d7 := D7.out
        have d8 := D8.out
        have d9 := D9.out
        clear q1 q2
        obtain ⟨q1, q2⟩ := HB1k.out.laterCells
        obtain ⟨q3, q4⟩ := HBk.out.laterCells
        obtain ⟨kind, seq, r, tag, ⟨ua, ub⟩, far⟩ := i
        simp only at hbb d0 d7 d8 d9
        unfold plV at HLS
        simp only at HLS
        by_cases h1 : (kind == 2) = true
        · rw [h1, Bool.true_and] at hbb
          by_cases h2 : (tag == t) = true
          · rw [h2, Bool.true_and] at hbb
            cases sis with
            | false =>
              have e : bb = true := by rw [← hbb]; rfl
              subst e
              clear hbb
              refine wp_region_later (by kernel_rfl) (by kernel_rfl) ?_
              repeat (go_big_quiet_step (first | (go_at_call 39; exact Calls.later (HLS.out _))))
              refine wpQuiet_nil ?_
              rintro _ ⟨y, rfl⟩
              go_wp2_with fail
              go_meet
              exact ⟨rfl, y.h⟩
            | true =>
              rw [Bool.not_true, Bool.false_or] at hbb
              rw [hbb] at HLS
              clear hbb
              refine wp_region_later (by kernel_rfl) (by kernel_rfl) ?_
              repeat (go_big_quiet_step (first | (go_at_call 39; exact Calls.later (HLS.out _))))
              refine wpQuiet_nil ?_
              rintro _ ⟨y, rfl⟩
              go_wp2_with fail
              go_meet
              exact ⟨rfl, y.h⟩
          · simp only [Bool.not_eq_true] at h2
            rw [h2, Bool.false_and] at hbb
            subst hbb
            refine wp_region_later (by kernel_rfl) (by kernel_rfl) ?_
            repeat (go_big_quiet_step (first | (go_at_call 39; exact Calls.later (HLS.out _))))
            refine wpQuiet_nil ?_
            rintro _ ⟨y, rfl⟩
            go_wp2_with fail
            go_meet
            exact ⟨rfl, y.h⟩
        · simp only [Bool.not_eq_true] at h1
          rw [h1, Bool.false_and, Bool.false_and] at hbb
          subst hbb
          refine wp_region_later (by kernel_rfl) (by kernel_rfl) ?_
          repeat (go_big_quiet_step (first | (go_at_call 39; exact Calls.later (HLS.out _))))
          refine wpQuiet_nil ?_
          rintro _ ⟨y, rfl⟩
          go_wp2_with fail
          go_meet
          exact ⟨rfl, y.h⟩
      case rest =>
        obtain ⟨rfl, hby⟩ := hcut
        have HCY := Lib.hid (HC.out.call hby)
        have HBY := Lib.hid (HBk.out.below hby)
        have c8 := D8.out ⟨_, hby⟩
        have c9 := D9.out ⟨_, hby⟩
        have hgn := HGN.out
        simp only at c8 c9
        clear q1 q2 l1
        obtain ⟨q1, q2⟩ := (HB1k.out.below hby).cells
        have l1 := (HB1k.out.below hby).lt
        have l3 := HBY.out.lt
        obtain ⟨q3, q4⟩ := HBY.out.cells
        clear hby
        cases bb with
        | true =>
          go_wp2_with fail
          have hB4 := (show Blk _ (w.heap.size + 1 + 1) #[.int .i64 i.upto.1, .int .i64 i.upto.2] 29 from ((HBY.out.set 0 (.int .i64 i.upto.1)).set 1 (.int .i64 i.upto.2)))
          have hC4 := (HCY.out.set (p := ⟨w.heap.size + 1 + 1, 0, none⟩) (.inr rfl) (.int .i64 i.upto.1)).set (p := ⟨w.heap.size + 1 + 1, 1, none⟩) (.inr rfl) (.int .i64 i.upto.2)
          go_roundw
          case rel => exact ⟨k + 1, (by first | rfl | (rw [HW2.out]; rfl)), (by rw [HLL.out]; exact HLT.out), (by rw [HTK.out]; rfl), (by rw [HTK.out]; exact hB4), hC4⟩
          case measure => first | exact rt_meas HW2.out HLT.out | exact rt_meas2 HLT.out
        | false =>
          go_wp2_with fail
          go_roundw
          case rel => exact ⟨k + 1, (by first | rfl | (rw [HW2.out]; rfl)), (by rw [HLL.out]; exact HLT.out), (by rw [HTK.out]; rfl), (by rw [HTK.out]; exact HBY.out), HCY.out⟩
          case measure => first | exact rt_meas HW2.out HLT.out | exact rt_meas2 HLT.out
    · have ht : decide ((k : Int) < (l.length : Int)) = false := by simpa using hlt
      have ht2 : decide (l.length ≤ k) = true := by simp; omega
      have ht3 : decide (k < l.length) = false := by simpa using hlt
      have hke : trimD (its l) t = ((sa, sb), sis) := by
        rw [← HS.out, show k = (its l).length by rw [HLL.out]; omega, List.take_length]
      have HKE := Lib.hid hke
      obtain ⟨q3, q4⟩ := HBk.out.cells
      have HB4 := Lib.hid (HB2.out.ch HC.out (by omega))
      obtain ⟨z1, z2⟩ := HB4.out.cells
      have l3 := HBk.out.lt
      have l4 := HB4.out.lt
      clear hke
      go_wp2_with fail
      obtain ⟨y1, y2⟩ := (show Blk _ (w.heap.size + 1) #[.int .i64 sa, .int .i64 sb] 29 from ((HB4.out.set 0 (.int .i64 sa)).set 1 (.int .i64 sb))).cells
      refine bodyPost_ret (v := .tuple #[plV (sa, sb), .bool sis]) (by simp [results, Try.results30, go_sem, y1, plV]) rfl ⟨by rw [HKE.out], ?_⟩
      have hC5 : Ch (fun k => w.heap.size ≤ k) w0 wr := HC.out.mono (fun j e => by omega)
      have hC6 := (hC5.set (p := ⟨w.heap.size + 1, 0, none⟩) (.inr (by simp)) (.int .i64 sa)).set (p := ⟨w.heap.size + 1, 1, none⟩) (.inr (by simp)) (.int .i64 sb)
      exact Ch.below ((Ch.of_below (fun _ => False) HB.out).step hC6 (fun j hj e => by omega))
end Go.Proofs.Ytpcocmdhdnfjcaa
