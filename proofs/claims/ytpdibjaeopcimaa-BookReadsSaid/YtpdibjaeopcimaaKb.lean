/- book's laws: below, and what it hands back: a walk through a book's tags. -/
import Derived.RangeFuncNested
import Derived.RangeFuncBound
import Derived.RangeFuncBox
import Derived.RangeFuncCalls
import Derived.RangeFuncLeaves
import Derived.Shelf.Abstract
import Derived.Shelf.RegionOpen
import Derived.WalkKit
import Derived.OwnWalkIn
import Derived.TacticsInMore
import Derived.LoopNIn
import Derived.LoopIn
import Derived.Maps.AppendAt
import Derived.Test.YtpdibjaeopcimaaKa
set_option linter.unusedVariables false
set_option linter.unusedSimpArgs false
namespace Go.Proofs.Ytpdibjaeopcimaa
open Go.RowKit Go.Shelf
attribute [local go_sem] Oper.semAt_some

/-- These blocks are as they were. -/
def KeepP (S : Nat → Prop) (A B : World) : Prop := ∀ k, S k → B.heap[k]? = A.heap[k]?
theorem KeepP.trans {S : Nat → Prop} {A B C : World} (h : KeepP S A B) (k : KeepP S B C) : KeepP S A C := fun i hi => (k i hi).trans (h i hi)
theorem KeepP.cell {S : Nat → Prop} {A B : World} (h : KeepP S A B) {p : Addr} (hp : S p.block) : B.cell? p = A.cell? p := World.cell?_of_block (h p.block hp)
theorem KeepP.of_ch {S S' : Nat → Prop} {A B : World} (h : Ch S' A B) (hs : ∀ k, S k → k < A.heap.size ∧ ¬ S' k) : KeepP S A B := fun k hk => h.block k (hs k hk).1 (hs k hk).2
/-- What the walk tells of a tag. -/
def yieldD (b t : Int) : Int × Bool := ((tagD b t).1, (tagD b t).2 && decide (0 < t))
/-- All that it tells. -/
def belowD (b : Int) (tags : List Int) : List (Int × Bool) := tagD b 0 :: tags.map (yieldD b)
def encY (p : Int × Bool) : Array Value := #[.int .i64 p.1, .bool p.2]
theorem belowD_take {b : Int} {tags : List Int} {k : Nat} {t : Int} (h : tags[k]? = some t) : belowD b (tags.take (k + 1)) = belowD b (tags.take k) ++ [yieldD b t] := by
  unfold belowD
  rw [List.take_add_one, h]
  simp
theorem belowD_pre (b : Int) (tags : List Int) (k : Nat) : belowD b (tags.take k) <+: belowD b tags := by
  unfold belowD
  exact List.prefix_cons_inj _ |>.2 ((List.take_prefix _ _).map _)
set_option maxRecDepth 100000 in
set_option maxHeartbeats 2000000 in
theorem below1_any (n : Nat) (hn : 1 ≤ n) (l Bb Bt : Nat) {S : Nat → Prop} (b : Int) (tags : List Int) (tv : Value) (hm : tags.length ≤ 140737488351232) (J Jx : List (Int × Bool) → World → Prop)
    (hY : ∀ pre x W, J pre W → pre.length < tags.length + 1 → YieldAt Fence.wide (n - 1) Try.prog l (encY x) W fun e W' =>
      (e = .returned (.bool true) ∧ J (pre ++ [x]) W' ∧ KeepP S W W') ∨ (e = .returned (.bool false) ∧ Jx (pre ++ [x]) W'))
    (W : World) (hBb : Blk W Bb #[.int .i64 b] 3) (hBt : Blk W Bt #[tv] 24) (hb1 : S Bb) (hb2 : S Bt) (hv : VRow S 1 intO W tv tags) (h0 : J [] W) :
    CallsIn Fence.wide n Try.prog 49 #[.func (.yield l) #[] #[], .pointer (some ⟨Bb, 0, none⟩), .pointer (some ⟨Bt, 0, none⟩)] W fun e W' => (∃ v, e = .returned v) ∧
      ((∃ ys, ys = belowD b tags ∧ J ys W') ∨ (∃ pre, pre <+: belowD b tags ∧ Jx pre W')) := by
  have HV := Lib.hid hv
  have HB1 := Lib.hid hBb
  have HB2 := Lib.hid hBt
  obtain ⟨ta, tcap, rfl, _, _⟩ := hv.slice
  obtain ⟨q1, q2⟩ := hBb.cells
  have l1 := hBb.lt
  have HT := Lib.hid (fun t w => callsIn_wide (n := n - 1) |>.2 (tag_any b t w))
  clear hv hBb hBt
  obtain ⟨fn, tmps, assign, body, hy, hR⟩ := hY [] (tagD b 0) W h0 (by simp)
  unfold encY at hy
  refine callsIn_of_wp Try.func49 rfl trivial ?_ rfl
  simp only [Try.ntmps49, List.size_toArray, List.length_cons, List.length_nil, Nat.reduceAdd, Nat.reduceSub, Array.replicate_succ, Array.replicate_zero, List.push_toArray, List.append_toArray, List.nil_append, List.cons_append]
  gi_wp2_with (refine ⟨trivial, ?_⟩; gi_at_call 25; refine (HT.out _ _).mono ?_; rintro e w' ⟨rfl, hw⟩; rw [hw]; clear hw)
  refine hR.mono ?_
  rintro e W3 (⟨rfl, hJ3, hk3⟩ | ⟨rfl, hJx3⟩)
  · have q3 : W3.cell? ⟨Bt, 0, none⟩ = some (.slice ta tags.length tcap) := (hk3.cell (p := ⟨Bt, 0, none⟩) hb2).trans (by simpa using HB2.out.cell 0)
    have HJ3 := Lib.hid (show J (belowD b (tags.take 0)) W3 from hJ3)
    have HK3 := Lib.hid hk3
    clear hJ3 hk3 q1 q2 l1 hy hR h0
    gi_wp2
    gi_loopw [17] (fun i wr => ∃ k : Nat, k ≤ tags.length ∧ i = .int .i64 (k : Int) ∧ J (belowD b (tags.take k)) wr ∧ KeepP S W wr) (fun i _ => tags.length - (intOf i).toNat)
    case atStart => exact ⟨0, Nat.zero_le _, rfl, HJ3.out, HK3.out⟩
    case round =>
      obtain ⟨k, hk, rfl, hJs, hnx⟩ := hrel
      have HJS := Lib.hid hJs
      have HNX := Lib.hid hnx
      by_cases hlt : k < tags.length
      · have ht : decide ((k : Int) < (tags.length : Int)) = true := by simpa using hlt
        obtain ⟨t, hp⟩ : ∃ t, tags[k]? = some t := ⟨_, List.getElem?_eq_getElem hlt⟩
        obtain ⟨a', cap', e, _, _, h4⟩ := HV.out
        obtain ⟨g, off, ea, _, hS, hc⟩ := h4 k t hp
        cases e
        subst ea
        have c0 : wr.cell? ⟨g, off + k, none⟩ = some (.int .i64 t) := (hnx.cell (p := ⟨g, off + k, none⟩) hS).trans (by simpa using hc 0 _ rfl)
        have c1 : wr.cell? ⟨Bb, 0, none⟩ = some (.int .i64 b) := (hnx.cell (p := ⟨Bb, 0, none⟩) hb1).trans (by simpa using HB1.out.cell 0)
        obtain ⟨p, hp0⟩ : ∃ p, p = tagD b t := ⟨_, rfl⟩
        obtain ⟨p1, p2⟩ := p
        have HTT := Lib.hid (fun w => HT.out t w)
        rw [← hp0] at HTT
        have hyd : yieldD b t = (p1, p2 && decide (0 < t)) := by unfold yieldD; rw [← hp0]
        obtain ⟨fn, tmps, assign, body, hy, hR⟩ := hY _ (p1, p2 && decide (0 < t)) wr hJs (by unfold belowD; rw [List.length_cons, List.length_map, List.length_take]; omega)
        unfold encY at hy
        have HTK := Lib.hid (show belowD b (tags.take (k + 1)) = belowD b (tags.take k) ++ [(p1, p2 && decide (0 < t))] by rw [belowD_take hp, hyd])
        have HW2 := Lib.hid (show wrap64 ((k : Int) + 1) = (k : Int) + 1 from IntWalk.wrap64_in _ (by omega))
        have HLT := Lib.hid hlt
        clear hp0 hyd hc h4 hp hJs hnx hlt
        obtain ⟨dt, hdt⟩ : ∃ d, decide (0 < t) = d := ⟨_, rfl⟩
        simp only [hdt] at hy hR
        rw [hdt] at HTK
        cases p2 <;> cases dt <;> (try simp only [Bool.true_and, Bool.false_and] at hy hR)
        all_goals
          gi_wp2_with (refine ⟨trivial, ?_⟩; gi_at_call 25; refine (HTT.out _).mono ?_; rintro e w' ⟨rfl, hw⟩; rw [hw]; clear hw)
          refine hR.mono ?_
          rintro e W4 (⟨rfl, hJ4, hk4⟩ | ⟨rfl, hJx4⟩)
          · gi_wp2
            go_roundw
            case rel => exact ⟨k + 1, HLT.out, (by first | rfl | (rw [HW2.out]; rfl)), (by rw [HTK.out]; exact hJ4), HNX.out.trans hk4⟩
            case measure => first | exact rt_meas HW2.out HLT.out | exact rt_meas2 HLT.out
          · gi_wp2
            refine bodyPost_ret (results_none rfl _ _ _) rfl ?_
            exact ⟨⟨_, rfl⟩, .inr ⟨_, belowD_pre b tags (k + 1), by rw [HTK.out]; exact hJx4⟩⟩
      · have ht : decide ((k : Int) < (tags.length : Int)) = false := by simpa using hlt
        have ht2 : decide (tags.length ≤ k) = true := by simp; omega
        have ht3 : decide (k < tags.length) = false := by simpa using hlt
        have hfull : tags.take k = tags := List.take_of_length_le (by omega)
        rw [hfull] at hJs
        clear hfull
        gi_wp2
        go_end0
        exact ⟨⟨_, rfl⟩, .inl ⟨_, rfl, hJs⟩⟩
  · gi_wp2
    refine bodyPost_ret (results_none rfl _ _ _) rfl ?_
    exact ⟨⟨_, rfl⟩, .inr ⟨_, belowD_pre b tags 0, hJx3⟩⟩
set_option maxRecDepth 100000 in
/-- below: both arguments are boxed; what it hands back has taken the boxes. -/
theorem below_any (b : Int) (tv : Value) (w : World) (hv : ∃ a len cap, tv = .slice a len cap) : Calls Try.prog 31 #[.int .i64 b, tv] w fun e w' => e = .returned (.func (.func 49) #[] #[.pointer (some ⟨w.heap.size, 0, none⟩), .pointer (some ⟨w.heap.size + 1, 0, none⟩)]) ∧ w' = (w.alloc (.cells #[.int .i64 b] 3)).alloc (.cells #[tv] 24) := by
  obtain ⟨a, len, cap, rfl⟩ := hv
  go_enter Try.func31, Try.ntmps31
  go_wp2_with fail
  go_ret
  exact ⟨rfl, rfl⟩
/-- .. which stops at a tag, or at the end. -/
theorem below_stops (n : Nat) (hn : 1 ≤ n) (Bb Bt : Nat) {S : Nat → Prop} (b : Int) (tags : List Int) (tv : Value) (hm : tags.length ≤ 140737488351232) (w : World) (hBb : Blk w Bb #[.int .i64 b] 3) (hBt : Blk w Bt #[tv] 24) (hb1 : S Bb) (hb2 : S Bt) (hv : VRow S 1 intO w tv tags) :
    SeqStopsK Fence.wide n Try.prog 49 #[.pointer (some ⟨Bb, 0, none⟩), .pointer (some ⟨Bt, 0, none⟩)] encY (KeepP S) (fun ys => ys = belowD b tags) (fun pre => pre <+: belowD b tags) (tags.length + 1) w := fun l J Jx W hW _ _ hY h0 =>
  below1_any n hn l Bb Bt b tags tv hm J Jx hY W (hBb.below hW) (hBt.below hW) hb1 hb2 (hv.below hW) h0
end Go.Proofs.Ytpdibjaeopcimaa
