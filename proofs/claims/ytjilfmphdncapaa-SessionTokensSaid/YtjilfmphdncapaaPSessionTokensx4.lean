-- PRINTED BY print.sh 35421559b90ae4d0a3588c463048766b98c2df88dd9212a6774a882060cdf62d: not written by this session
import Derived.Test.YtjilfmphdncapaaPSessionTokensx0
import Derived.Test.YtjilfmphdncapaaPSessionTokensx3
namespace Go.Proofs.Ytjilfmphdncapaa.PSessionTokens
open Go.RowKit Go.Proofs.YtjilfmphdncapaaW.PrintWords Go.Proofs.YtjilfmphdncapaaW.PrintLast Go.Proofs.YtjilfmphdncapaaW.PrintMore
attribute [local go_sem] max2_int min2_int max_two min_two max_three min_three max_four min_four   -- for this text's walks alone
set_option linter.unusedVariables false
set_option linter.unusedSimpArgs false

/-! ### carabinerref02_ReadNum: function 37 -/
mutual
def carabinerref02_ReadNum.j0 : Nat → Int → Int → Bool → ByteArray → Int → Option (ByteArray × Int × Int)
  | 0, _, _, _, _, _ => none
  | k + 1, x1, x6, x24, x155000, x155001 => if x24 = true then ((carabinerref02_failed.f (⟨#[]⟩ : ByteArray) x155001 20).bind fun bt157 => (some (bt157.1, bt157.2, 0))) else (if x6 < 0 then (if 9 ≤ (x155000.size : Int) then ((carabinerref02_failed.f (x155000.extract 9 x155000.size) x155001 21).bind fun bt159 => (some (bt159.1, bt159.2, 0))) else (none)) else (carabinerref02_ReadNum.l0 k x1 x6 0 x6 x155000 x155001))
def carabinerref02_ReadNum.l0 : Nat → Int → Int → Int → Int → ByteArray → Int → Option (ByteArray × Int × Int)
  | 0, _, _, _, _, _, _ => none
  | k + 1, x1, x6, x7, x8, x155000, x155001 => if x8 ≥ 0 then (if 0 ≤ x8 then (if x8 < (x155000.size : Int) then (carabinerref02_ReadNum.l0 k x1 x6 (wrap64 ((wrap64 (x7 * 128)) + (Int.tmod (wrap64 (bt x155000 x8)) 128))) (wrap64 (x8 - 1)) x155000 x155001) else (none)) else (none)) else (if 0 ≤ (wrap64 (x6 + 1)) then (if (wrap64 (x6 + 1)) ≤ (x155000.size : Int) then ((carabinerref02_Num.f k x7).bind fun t161 => (if t161.toList = (x155000.extract 0 ((wrap64 (x6 + 1)) : Int).toNat).toList then (if x7 > x1 then ((carabinerref02_failed.f (x155000.extract ((wrap64 (x6 + 1)) : Int).toNat x155000.size) x155001 21).bind fun bt162 => (some (bt162.1, bt162.2, 0))) else (some (x155000.extract ((wrap64 (x6 + 1)) : Int).toNat x155000.size, x155001, x7))) else ((carabinerref02_failed.f (x155000.extract ((wrap64 (x6 + 1)) : Int).toNat x155000.size) x155001 21).bind fun bt164 => (some (bt164.1, bt164.2, 0))))) else (none)) else (none))
end
def carabinerref02_ReadNum.f (k : Nat) (a0_0 : ByteArray) (a0_1 : Int) (a1 : Int) : Option (ByteArray × Int × Int) := if a0_1 = 0 then ((carabinerref02_last.f k a0_0).bind fun t156 => (if t156 < 0 then (carabinerref02_ReadNum.j0 k a1 t156 (decide ((a0_0.size : Int) < 9)) a0_0 a0_1) else (carabinerref02_ReadNum.j0 k a1 t156 false a0_0 a0_1))) else (some (a0_0, a0_1, 0))
theorem carabinerref02_ReadNum.mono_l : ∀ k, (∀ y0 y1 y2 y3 y4, LeO (carabinerref02_ReadNum.j0 k y0 y1 y2 y3 y4) (carabinerref02_ReadNum.j0 (k + 1) y0 y1 y2 y3 y4)) ∧ (∀ y0 y1 y2 y3 y4 y5, LeO (carabinerref02_ReadNum.l0 k y0 y1 y2 y3 y4 y5) (carabinerref02_ReadNum.l0 (k + 1) y0 y1 y2 y3 y4 y5))
  | 0 => ⟨fun _ _ _ _ _ r h => by simp [carabinerref02_ReadNum.j0] at h, fun _ _ _ _ _ _ r h => by simp [carabinerref02_ReadNum.l0] at h⟩
  | k + 1 => by
    obtain ⟨ih0, ih1⟩ := carabinerref02_ReadNum.mono_l k
    refine ⟨?_, ?_⟩
    · intro y0 y1 y2 y3 y4
      unfold carabinerref02_ReadNum.j0
      repeat' first
      | (with_reducible exact ih0 _ _ _ _ _)
      | (with_reducible exact ih1 _ _ _ _ _ _)
      | (with_reducible exact carabinerref02_Num.mono _ _)
      | (with_reducible exact carabinerref02_last.mono _ _)
      | (with_reducible exact LeO.refl _)
      | (with_reducible exact LeO.none _)
      | (with_reducible refine LeO.ite ?_ ?_)
      | (with_reducible refine LeO.bind ?_ (fun _ => ?_))
      | exact ih0 _ _ _ _ _
      | exact ih1 _ _ _ _ _ _
      | exact carabinerref02_Num.mono _ _
      | exact carabinerref02_last.mono _ _
      | exact LeO.none _
      | refine LeO.ite ?_ ?_
      | refine LeO.bind ?_ (fun _ => ?_)
    · intro y0 y1 y2 y3 y4 y5
      unfold carabinerref02_ReadNum.l0
      repeat' first
      | (with_reducible exact ih0 _ _ _ _ _)
      | (with_reducible exact ih1 _ _ _ _ _ _)
      | (with_reducible exact carabinerref02_Num.mono _ _)
      | (with_reducible exact carabinerref02_last.mono _ _)
      | (with_reducible exact LeO.refl _)
      | (with_reducible exact LeO.none _)
      | (with_reducible refine LeO.ite ?_ ?_)
      | (with_reducible refine LeO.bind ?_ (fun _ => ?_))
      | exact ih0 _ _ _ _ _
      | exact ih1 _ _ _ _ _ _
      | exact carabinerref02_Num.mono _ _
      | exact carabinerref02_last.mono _ _
      | exact LeO.none _
      | refine LeO.ite ?_ ?_
      | refine LeO.bind ?_ (fun _ => ?_)
theorem carabinerref02_ReadNum.mono : ∀ a0 a1 a2 k, LeO (carabinerref02_ReadNum.f k a0 a1 a2) (carabinerref02_ReadNum.f (k + 1) a0 a1 a2) := by
  intro a0 a1 a2 k
  obtain ⟨ih0, ih1⟩ := carabinerref02_ReadNum.mono_l k
  unfold carabinerref02_ReadNum.f
  repeat' first
      | (with_reducible exact ih0 _ _ _ _ _)
      | (with_reducible exact ih1 _ _ _ _ _ _)
      | (with_reducible exact carabinerref02_Num.mono _ _)
      | (with_reducible exact carabinerref02_last.mono _ _)
      | (with_reducible exact LeO.refl _)
      | (with_reducible exact LeO.none _)
      | (with_reducible refine LeO.ite ?_ ?_)
      | (with_reducible refine LeO.bind ?_ (fun _ => ?_))
      | exact ih0 _ _ _ _ _
      | exact ih1 _ _ _ _ _ _
      | exact carabinerref02_Num.mono _ _
      | exact carabinerref02_last.mono _ _
      | exact LeO.none _
      | refine LeO.ite ?_ ?_
      | refine LeO.bind ?_ (fun _ => ?_)
set_option maxHeartbeats 8000000 in
set_option maxRecDepth 100000 in
theorem carabinerref02_ReadNum.calls (k : Nat) (a0_0 : ByteArray) (a0_1 : Int) (a1 : Int) (r1 : ByteArray) (r2 : Int) (r3 : Int) (w : World) (h : carabinerref02_ReadNum.f k a0_0 a0_1 a1 = some (r1, r2, r3)) :
    Calls Try.prog 37 #[.agg #[.string a0_0, .int .i64 a0_1], .int .i64 a1] w fun e w' => e = .returned (.tuple #[.agg #[.string r1, .int .i64 r2], .int .i64 r3]) ∧ Below w.heap.size w w' := by
  have hu80 := Try.underlying80
  have HB := Aside0.mk (Below.refl w.heap.size w)
  have H : (if a0_1 = 0 then ((carabinerref02_last.f k a0_0).bind fun t156 => (if t156 < 0 then (carabinerref02_ReadNum.j0 k a1 t156 (decide ((a0_0.size : Int) < 9)) a0_0 a0_1) else (carabinerref02_ReadNum.j0 k a1 t156 false a0_0 a0_1))) else (some (a0_0, a0_1, 0))) = some (r1, r2, r3) := h
  clear h
  by_cases c3 : a0_1 = 0
  · rw [if_pos c3] at H
    have c3b0 : (a0_1 == 0) = true := beq_iff_eq.mpr c3
    have c3b1 : (a0_1 != 0) = false := bne_eq_false_iff_eq.mpr c3
    clear c3
    replace H := Option.bind_eq_some_iff.mp H
    obtain ⟨t156, A40, H⟩ := H
    replace H : (if t156 < 0 then (carabinerref02_ReadNum.j0 k a1 t156 (decide ((a0_0.size : Int) < 9)) a0_0 a0_1) else (carabinerref02_ReadNum.j0 k a1 t156 false a0_0 a0_1)) = some (r1, r2, r3) := H
    have A4 := Aside0.mk A40
    clear A40
    have HC5 := Aside0.mk H
    clear H
    go_enter Try.func37, Try.ntmps37
    go_upto_region 4 with (first | ((with_reducible refine gate_dst (N := 2) rfl ?_); (try (refine gate_guard (by rfl) ?_; dsimp only)); refine box_event ?hg (N := 2) ?hd (cs := #[.string a0_0, .int .i64 a0_1]) (t := 80) ?hr ?_; (case hd => rfl); (case hg => rfl); (case hr => first | (go_simp; done) | (go_simp; rfl)); intro gb154 hg w6 hbox hb; have n0_ := Aside0.mk (below_step (by repeat (first | (with_reducible first | exact HB.out | apply below_alloc | apply pw_below_drewN | apply below_drew1) | exact HB.out)) hb); have n1_ := Aside0.mk (hbox); have n2_ := Aside0.mk ((by rw [hg]; exact (below_size (by repeat (first | (with_reducible first | exact HB.out | apply below_alloc | apply pw_below_drewN | apply below_drew1) | exact HB.out))) : w.heap.size ≤ gb154)); have n3_ := Aside0.mk ((by rw [hg]; exact (below_size (by repeat (first | (with_reducible first | exact HB.out | apply below_alloc | apply pw_below_drewN | apply below_drew1) | exact HB.out))) : w.heap.size ≤ gb154)); clear HB; have HB := n0_; have BK154 := n1_; have GW154 := n2_; have GE154 := n3_; clear n0_ n1_ n2_ n3_; clear hb hbox hg) | ((with_reducible refine gate_dst (N := 4) rfl ?_); (try (refine gate_guard (by rfl) ?_; dsimp only)); refine box_event ?hg (N := 4) ?hd (cs := #[.string (⟨#[]⟩ : ByteArray), .int .i64 0]) (t := 80) ?hr ?_; (case hd => rfl); (case hg => rfl); (case hr => first | (go_simp; done) | (go_simp; rfl)); intro gb155 hg w7 hbox hb; have n0_ := Aside0.mk (blk_below (g := gb154) (o := .cells #[.string a0_0, .int .i64 a0_1] 80 (0, 0)) (by (with_reducible repeat (first | refine blk_drewN ?_ _ | refine blk_drew ?_ | refine blk_alloc ?_ _)); exact BK154.out) hb); have n1_ := Aside0.mk (below_step (by repeat (first | (with_reducible first | exact HB.out | apply below_alloc | apply pw_below_drewN | apply below_drew1 | refine below_set ?_ GE154.out) | exact HB.out)) hb); have n2_ := Aside0.mk (hbox); have n3_ := Aside0.mk ((by rw [hg]; exact (below_size (by repeat (first | (with_reducible first | exact HB.out | apply below_alloc | apply pw_below_drewN | apply below_drew1 | refine below_set ?_ GE154.out) | exact HB.out))) : w.heap.size ≤ gb155)); have n4_ := Aside0.mk ((by rw [hg]; exact (below_size (by repeat (first | (with_reducible first | exact HB.out | apply below_alloc | apply pw_below_drewN | apply below_drew1 | refine below_set ?_ GE154.out) | exact HB.out))) : w.heap.size ≤ gb155)); have n5_ := Aside0.mk ((by rw [hg]; exact Nat.ne_of_lt (blk_lt (g := gb154) (o := .cells #[.string a0_0, .int .i64 a0_1] 80 (0, 0)) (by (with_reducible repeat (first | refine blk_drewN ?_ _ | refine blk_drew ?_ | refine blk_alloc ?_ _)); exact BK154.out)) : gb154 ≠ gb155)); have n6_ := Aside0.mk ((by rw [hg]; exact Nat.ne_of_gt (blk_lt (g := gb154) (o := .cells #[.string a0_0, .int .i64 a0_1] 80 (0, 0)) (by (with_reducible repeat (first | refine blk_drewN ?_ _ | refine blk_drew ?_ | refine blk_alloc ?_ _)); exact BK154.out)) : gb155 ≠ gb154)); clear BK154; clear HB; have BK154 := n0_; have HB := n1_; have BK155 := n2_; have GW155 := n3_; have GE155 := n4_; have NB154_155 := n5_; have NB155_154 := n6_; clear n0_ n1_ n2_ n3_ n4_ n5_ n6_; clear hb hbox hg; have hnb8 := NB154_155.out; have hnc8 := NB155_154.out; have hcz9_0 : w7.cell? ⟨gb154, 0, none⟩ = some (.string a0_0) := (blk_cell BK154.out 0).trans rfl; have hcz9_1 : w7.cell? ⟨gb154, 1, none⟩ = some (.int .i64 a0_1) := (blk_cell BK154.out 1).trans rfl; have hfz9_0 := blk_frozen BK154.out 0; have hfz9_1 := blk_frozen BK154.out 1) | ((with_reducible refine gate_callee (f := 44) rfl ?_); refine goesL_ (some 16) rfl rfl Try.func44 (by kernel_rfl) rfl #[.string a0_0] rfl (by (try simp only [List.map_toArray, List.map_cons, List.map_nil]); first | done | rfl | (simp only [List.length_drop, List.length_take]; rfl)) ?_; (with_reducible refine (carabinerref02_last.calls k a0_0 t156 _ A4.out).mono ?_); rintro e w' ⟨rfl, ⟨nd, rfl⟩⟩; refine ⟨_, rfl, ?_⟩))
    (try simp only [Act.put, List.setIfInBounds_toArray, List.set_cons_zero, List.set_cons_succ])
    go_cut [24] (fun v24 wc => ∃ (kq : Nat) (x24_4 : Bool), v24 = .bool x24_4 ∧ Aside0 (carabinerref02_ReadNum.j0 kq a1 t156 x24_4 a0_0 a0_1 = some (r1, r2, r3)) ∧ Aside0 (kq ≤ k) ∧ Aside0 (wc.heap[gb154]? = some (.cells #[.string a0_0, .int .i64 a0_1] 80 (0, 0))) ∧ Aside0 (wc.heap[gb155]? = some (.cells #[.string (⟨#[]⟩ : ByteArray), .int .i64 0] 80 (0, 0))) ∧ Aside0 (Below w.heap.size w wc))
    case first =>
      have H := HC5.out
      clear HC5
      by_cases c10 : t156 < 0
      · rw [if_pos c10] at H
        have c10b0 : decide (t156 < 0) = true := decide_eq_true c10
        clear c10
        (first | rw [c10b0] | (simp only [i64_w, i32_w]; rw [c10b0]) | skip)
        have H' := Aside0.mk H
        clear H
        have hnb11 := NB154_155.out
        have hnc11 := NB155_154.out
        have hcz12_0 : w7.cell? ⟨gb154, 0, none⟩ = some (.string a0_0) := (blk_cell BK154.out 0).trans rfl
        have hcz12_1 : w7.cell? ⟨gb154, 1, none⟩ = some (.int .i64 a0_1) := (blk_cell BK154.out 1).trans rfl
        have hfz12_0 := blk_frozen BK154.out 0
        have hfz12_1 := blk_frozen BK154.out 1
        go_wp2
        go_meet
        case rel => exact ⟨_, (decide ((a0_0.size : Int) < 9)), (by first | rfl | (simp; done) | (simp [*]; done)), H', ⟨by first | omega | exact Nat.le_refl _⟩, ⟨by (with_reducible repeat (first | refine blk_drewN ?_ _ | refine blk_drew ?_ | refine blk_alloc ?_ _)); exact BK154.out⟩, ⟨by (with_reducible repeat (first | refine blk_drewN ?_ _ | refine blk_drew ?_ | refine blk_alloc ?_ _)); exact BK155.out⟩, ⟨by repeat (first | (with_reducible first | exact HB.out | apply below_alloc | apply pw_below_drewN | apply below_drew1 | refine below_set ?_ GE154.out | refine below_set ?_ GE155.out) | exact HB.out)⟩⟩
      · rw [if_neg c10] at H
        have c10b0 : decide (t156 < 0) = false := decide_eq_false c10
        clear c10
        (first | rw [c10b0] | (simp only [i64_w, i32_w]; rw [c10b0]) | skip)
        have H' := Aside0.mk H
        clear H
        go_wp2
        go_meet
        case rel => exact ⟨_, (false), (by first | rfl | (simp; done) | (simp [*]; done)), H', ⟨by first | omega | exact Nat.le_refl _⟩, ⟨by (with_reducible repeat (first | refine blk_drewN ?_ _ | refine blk_drew ?_ | refine blk_alloc ?_ _)); exact BK154.out⟩, ⟨by (with_reducible repeat (first | refine blk_drewN ?_ _ | refine blk_drew ?_ | refine blk_alloc ?_ _)); exact BK155.out⟩, ⟨by repeat (first | (with_reducible first | exact HB.out | apply below_alloc | apply pw_below_drewN | apply below_drew1 | refine below_set ?_ GE154.out | refine below_set ?_ GE155.out) | exact HB.out)⟩⟩
    case rest =>
      clear HC5
      try clear c1
      try clear p2
      try clear c3
      try clear c3b0
      try clear c3b1
      try clear c4
      try clear c8
      try clear c10
      try clear c10b0
      try clear c11
      try clear hcz12_0
      try clear hcz12_1
      try clear hcz9_0
      try clear hcz9_1
      try clear hfz12_0
      try clear hfz12_1
      try clear hfz9_0
      try clear hfz9_1
      obtain ⟨kq, x24_4, rfl, HA, HJ4, BK154, BK155, HB⟩ := hcut
      cases kq with
      | zero => exact absurd HA.out (by simp [carabinerref02_ReadNum.j0])
      | succ kj4 =>
        have H := HA.out
        clear HA
        simp only [carabinerref02_ReadNum.j0] at H
        by_cases c13 : x24_4 = true
        · subst c13
          have H1 : ((carabinerref02_failed.f (⟨#[]⟩ : ByteArray) a0_1 20).bind fun bt157 => (some (bt157.1, bt157.2, 0))) = some (r1, r2, r3) := by rw [if_pos rfl] at H; exact H
          clear H
          have H := H1
          clear H1
          replace H := Option.bind_eq_some_iff.mp H
          obtain ⟨⟨t157, t158⟩, A140, H⟩ := H
          replace H : (some (t157, t158, 0)) = some (r1, r2, r3) := H
          have A14 := Aside0.mk A140
          clear A140
          simp only [Option.some.injEq, Prod.mk.injEq] at H
          obtain ⟨rfl, rfl, rfl⟩ := H
          have hnb15 := NB154_155.out
          have hnc15 := NB155_154.out
          have hcz16_0 : wc.cell? ⟨gb154, 0, none⟩ = some (.string a0_0) := (blk_cell BK154.out 0).trans rfl
          have hcz16_1 : wc.cell? ⟨gb154, 1, none⟩ = some (.int .i64 a0_1) := (blk_cell BK154.out 1).trans rfl
          have hfz16_0 := blk_frozen BK154.out 0
          have hfz16_1 := blk_frozen BK154.out 1
          go_wp2_with (first | ((with_reducible refine gate_callee (f := 45) rfl ?_); refine goesL_ (some 27) rfl rfl Try.func45 (by kernel_rfl) rfl #[.agg #[.string (⟨#[]⟩ : ByteArray), .int .i64 a0_1], .int .i64 20] rfl (by (try simp only [List.map_toArray, List.map_cons, List.map_nil]); first | done | rfl | (simp only [List.length_drop, List.length_take]; rfl)) ?_; (with_reducible refine (carabinerref02_failed.calls (⟨#[]⟩ : ByteArray) a0_1 20 t157 t158 _ A14.out).mono ?_); rintro e w17 ⟨rfl, hb⟩; refine ⟨_, rfl, ?_⟩; have n0_ := Aside0.mk (blk_below (g := gb154) (o := .cells #[.string (⟨#[]⟩ : ByteArray), .int .i64 a0_1] 80 (0, 0)) (by (with_reducible repeat (first | refine blk_drewN ?_ _ | refine blk_drew ?_ | refine blk_alloc ?_ _)); refine blk_put (cs := #[.string a0_0, .int .i64 a0_1]) ?_ 0 _ rfl; (with_reducible repeat (first | refine blk_drewN ?_ _ | refine blk_drew ?_ | refine blk_alloc ?_ _)); exact BK154.out) hb); have n1_ := Aside0.mk (blk_below (g := gb155) (o := .cells #[.string (⟨#[]⟩ : ByteArray), .int .i64 0] 80 (0, 0)) (by (with_reducible repeat (first | refine blk_drewN ?_ _ | refine blk_drew ?_ | refine blk_alloc ?_ _)); refine blk_far ?_ NB155_154.out _; (with_reducible repeat (first | refine blk_drewN ?_ _ | refine blk_drew ?_ | refine blk_alloc ?_ _)); exact BK155.out) hb); have n2_ := Aside0.mk (below_step (by repeat (first | (with_reducible first | exact HB.out | apply below_alloc | apply pw_below_drewN | apply below_drew1 | refine below_set ?_ GE154.out | refine below_set ?_ GE155.out) | exact HB.out)) hb); clear BK154; clear BK155; clear HB; have BK154 := n0_; have BK155 := n1_; have HB := n2_; clear n0_ n1_ n2_; (try clear hb); (try clear hb2); (try clear hk); (try clear hi); have hcz18_0 : w17.cell? ⟨gb155, 0, none⟩ = some (.string (⟨#[]⟩ : ByteArray)) := (blk_cell BK155.out 0).trans rfl; have hcz18_1 : w17.cell? ⟨gb155, 1, none⟩ = some (.int .i64 0) := (blk_cell BK155.out 1).trans rfl; have hfz18_0 := blk_frozen BK155.out 0; have hfz18_1 := blk_frozen BK155.out 1))
          refine bodyPost_ret (results_ct rfl _ _ gb155 80 #[.string t157, .int .i64 t158] (0, 0) _ rfl (by (with_reducible repeat (first | refine blk_drewN ?_ _ | refine blk_drew ?_ | refine blk_alloc ?_ _)); refine blk_put (cs := #[.string t157, .int .i64 0]) ?_ 1 _ rfl; (with_reducible repeat (first | refine blk_drewN ?_ _ | refine blk_drew ?_ | refine blk_alloc ?_ _)); refine blk_put (cs := #[.string (⟨#[]⟩ : ByteArray), .int .i64 0]) ?_ 0 _ rfl; (with_reducible repeat (first | refine blk_drewN ?_ _ | refine blk_drew ?_ | refine blk_alloc ?_ _)); exact BK155.out) Try.underlying80 rfl (by kernel_rfl)) rfl ?_
          exact ⟨by first | rfl | (simp [errW_none, errW_some] <;> rfl) | (simp [*, errW_none, errW_some] <;> rfl), by repeat (first | (with_reducible first | exact HB.out | apply below_alloc | apply pw_below_drewN | apply below_drew1 | refine below_set ?_ GE154.out | refine below_set ?_ GE155.out) | exact HB.out)⟩
        · replace c13 := Bool.eq_false_iff.mpr c13
          subst c13
          have H1 : (if t156 < 0 then (if 9 ≤ (a0_0.size : Int) then ((carabinerref02_failed.f (a0_0.extract 9 a0_0.size) a0_1 21).bind fun bt159 => (some (bt159.1, bt159.2, 0))) else (none)) else (carabinerref02_ReadNum.l0 kj4 a1 t156 0 t156 a0_0 a0_1)) = some (r1, r2, r3) := by rw [if_neg (show ¬ (false = true) by decide)] at H; exact H
          clear H
          have H := H1
          clear H1
          by_cases c19 : t156 < 0
          · rw [if_pos c19] at H
            have c19b0 : decide (t156 < 0) = true := decide_eq_true c19
            clear c19
            by_cases c20 : 9 ≤ (a0_0.size : Int)
            · rw [if_pos c20] at H
              have c20b0 := eq_true c20
              have c20b1 : decide (9 ≤ (a0_0.size : Int)) = true := decide_eq_true c20
              clear c20
              replace H := Option.bind_eq_some_iff.mp H
              obtain ⟨⟨t159, t160⟩, A210, H⟩ := H
              replace H : (some (t159, t160, 0)) = some (r1, r2, r3) := H
              have A21 := Aside0.mk A210
              clear A210
              simp only [Option.some.injEq, Prod.mk.injEq] at H
              obtain ⟨rfl, rfl, rfl⟩ := H
              have hnb22 := NB154_155.out
              have hnc22 := NB155_154.out
              have hcz23_0 : wc.cell? ⟨gb154, 0, none⟩ = some (.string a0_0) := (blk_cell BK154.out 0).trans rfl
              have hcz23_1 : wc.cell? ⟨gb154, 1, none⟩ = some (.int .i64 a0_1) := (blk_cell BK154.out 1).trans rfl
              have hfz23_0 := blk_frozen BK154.out 0
              have hfz23_1 := blk_frozen BK154.out 1
              go_wp2_with (first | ((with_reducible refine gate_callee (f := 45) rfl ?_); refine goesL_ (some 35) rfl rfl Try.func45 (by kernel_rfl) rfl #[.agg #[.string (a0_0.extract 9 a0_0.size), .int .i64 a0_1], .int .i64 21] rfl (by (try simp only [List.map_toArray, List.map_cons, List.map_nil]); first | done | rfl | (simp only [List.length_drop, List.length_take]; rfl)) ?_; (with_reducible refine (carabinerref02_failed.calls (a0_0.extract 9 a0_0.size) a0_1 21 t159 t160 _ A21.out).mono ?_); rintro e w24 ⟨rfl, hb⟩; refine ⟨_, rfl, ?_⟩; have n0_ := Aside0.mk (blk_below (g := gb154) (o := .cells #[.string (a0_0.extract 9 a0_0.size), .int .i64 a0_1] 80 (0, 0)) (by (with_reducible repeat (first | refine blk_drewN ?_ _ | refine blk_drew ?_ | refine blk_alloc ?_ _)); refine blk_put (cs := #[.string a0_0, .int .i64 a0_1]) ?_ 0 _ rfl; (with_reducible repeat (first | refine blk_drewN ?_ _ | refine blk_drew ?_ | refine blk_alloc ?_ _)); exact BK154.out) hb); have n1_ := Aside0.mk (blk_below (g := gb155) (o := .cells #[.string (⟨#[]⟩ : ByteArray), .int .i64 0] 80 (0, 0)) (by (with_reducible repeat (first | refine blk_drewN ?_ _ | refine blk_drew ?_ | refine blk_alloc ?_ _)); refine blk_far ?_ NB155_154.out _; (with_reducible repeat (first | refine blk_drewN ?_ _ | refine blk_drew ?_ | refine blk_alloc ?_ _)); exact BK155.out) hb); have n2_ := Aside0.mk (below_step (by repeat (first | (with_reducible first | exact HB.out | apply below_alloc | apply pw_below_drewN | apply below_drew1 | refine below_set ?_ GE154.out | refine below_set ?_ GE155.out) | exact HB.out)) hb); clear BK154; clear BK155; clear HB; have BK154 := n0_; have BK155 := n1_; have HB := n2_; clear n0_ n1_ n2_; (try clear hb); (try clear hb2); (try clear hk); (try clear hi); have hcz25_0 : w24.cell? ⟨gb155, 0, none⟩ = some (.string (⟨#[]⟩ : ByteArray)) := (blk_cell BK155.out 0).trans rfl; have hcz25_1 : w24.cell? ⟨gb155, 1, none⟩ = some (.int .i64 0) := (blk_cell BK155.out 1).trans rfl; have hfz25_0 := blk_frozen BK155.out 0; have hfz25_1 := blk_frozen BK155.out 1))
              refine bodyPost_ret (results_ct rfl _ _ gb155 80 #[.string t159, .int .i64 t160] (0, 0) _ rfl (by (with_reducible repeat (first | refine blk_drewN ?_ _ | refine blk_drew ?_ | refine blk_alloc ?_ _)); refine blk_put (cs := #[.string t159, .int .i64 0]) ?_ 1 _ rfl; (with_reducible repeat (first | refine blk_drewN ?_ _ | refine blk_drew ?_ | refine blk_alloc ?_ _)); refine blk_put (cs := #[.string (⟨#[]⟩ : ByteArray), .int .i64 0]) ?_ 0 _ rfl; (with_reducible repeat (first | refine blk_drewN ?_ _ | refine blk_drew ?_ | refine blk_alloc ?_ _)); exact BK155.out) Try.underlying80 rfl (by kernel_rfl)) rfl ?_
              exact ⟨by first | rfl | (simp [errW_none, errW_some] <;> rfl) | (simp [*, errW_none, errW_some] <;> rfl), by repeat (first | (with_reducible first | exact HB.out | apply below_alloc | apply pw_below_drewN | apply below_drew1 | refine below_set ?_ GE154.out | refine below_set ?_ GE155.out) | exact HB.out)⟩
            · rw [if_neg c20] at H
              exact absurd H (by simp)
          · rw [if_neg c19] at H
            have c19b0 : decide (t156 < 0) = false := decide_eq_false c19
            clear c19
            have H' := Aside0.mk H
            clear H
            go_wp2
            go_loopg [7, 8] kj4 (fun kq v7 v8 w' => ∃ (x7_2 : Int) (x8_2 : Int), v7 = .int .i64 x7_2 ∧ v8 = .int .i64 x8_2 ∧ Aside0 (carabinerref02_ReadNum.l0 kq a1 t156 x7_2 x8_2 a0_0 a0_1 = some (r1, r2, r3)) ∧ Aside0 (kq ≤ kj4) ∧ Aside0 (w'.heap[gb154]? = some (.cells #[.string a0_0, .int .i64 a0_1] 80 (0, 0))) ∧ Aside0 (w'.heap[gb155]? = some (.cells #[.string (⟨#[]⟩ : ByteArray), .int .i64 0] 80 (0, 0))) ∧ Aside0 (Below w.heap.size w w'))
            case atStart => exact ⟨(0), (t156), (by first | rfl | (simp; done) | (simp [*]; done)), (by first | rfl | (simp; done) | (simp [*]; done)), H', ⟨Nat.le_refl _⟩, ⟨by (with_reducible repeat (first | refine blk_drewN ?_ _ | refine blk_drew ?_ | refine blk_alloc ?_ _)); exact BK154.out⟩, ⟨by (with_reducible repeat (first | refine blk_drewN ?_ _ | refine blk_drew ?_ | refine blk_alloc ?_ _)); exact BK155.out⟩, ⟨by repeat (first | (with_reducible first | exact HB.out | apply below_alloc | apply pw_below_drewN | apply below_drew1 | refine below_set ?_ GE154.out | refine below_set ?_ GE155.out) | exact HB.out)⟩⟩
            case round =>
              clear H'
              try clear c1
              try clear c2
              try clear p2
              try clear c3
              try clear c3b0
              try clear c3b1
              try clear c4
              try clear c8
              try clear c10
              try clear c10b0
              try clear c11
              try clear c13
              try clear c15
              try clear c19
              try clear c19b0
              try clear c20
              try clear c20b0
              try clear c20b1
              try clear c22
              try clear hcz12_0
              try clear hcz12_1
              try clear hcz16_0
              try clear hcz16_1
              try clear hcz18_0
              try clear hcz18_1
              try clear hcz23_0
              try clear hcz23_1
              try clear hcz25_0
              try clear hcz25_1
              try clear hcz9_0
              try clear hcz9_1
              try clear hfz12_0
              try clear hfz12_1
              try clear hfz16_0
              try clear hfz16_1
              try clear hfz18_0
              try clear hfz18_1
              try clear hfz23_0
              try clear hfz23_1
              try clear hfz25_0
              try clear hfz25_1
              try clear hfz9_0
              try clear hfz9_1
              try clear p2
              obtain ⟨x7_2, x8_2, rfl, rfl, HA, HK2, BK154, BK155, HB⟩ := hrel
              cases gk with
              | zero => exact absurd HA.out (by simp [carabinerref02_ReadNum.l0])
              | succ k2 =>
                have H := HA.out
                clear HA
                simp only [carabinerref02_ReadNum.l0] at H
                by_cases c26 : x8_2 ≥ 0
                · rw [if_pos c26] at H
                  have c26b0 : decide (0 ≤ x8_2) = true := decide_eq_true c26
                  clear c26
                  by_cases c27 : 0 ≤ x8_2
                  · rw [if_pos c27] at H
                    have c27b0 : decide (0 ≤ x8_2) = true := decide_eq_true c27
                    clear c27
                    by_cases c28 : x8_2 < (a0_0.size : Int)
                    · rw [if_pos c28] at H
                      have c28b0 : decide (x8_2 < (a0_0.size : Int)) = true := decide_eq_true c28
                      clear c28
                      have H' := Aside0.mk H
                      clear H
                      have hnb30 := NB154_155.out
                      have hnc30 := NB155_154.out
                      have hcz31_0 : wr.cell? ⟨gb154, 0, none⟩ = some (.string a0_0) := (blk_cell BK154.out 0).trans rfl
                      have hcz31_1 : wr.cell? ⟨gb154, 1, none⟩ = some (.int .i64 a0_1) := (blk_cell BK154.out 1).trans rfl
                      have hfz31_0 := blk_frozen BK154.out 0
                      have hfz31_1 := blk_frozen BK154.out 1
                      have p29 : 0 ≤ (x8_2 : Int) := of_decide_eq_true (by first | (with_reducible assumption) | assumption)
                      have q29 : x8_2 < (a0_0.size : Int) := of_decide_eq_true (by first | (with_reducible assumption) | assumption)
                      have hx29 := bt_at a0_0 x8_2
                      replace p29 := eq_true p29
                      replace q29 := eq_true q29
                      go_wp2
                      go_roundg k2
                      case measure => have := HJ4.out; have := HK2.out; omega
                      case rel => exact ⟨(wrap64 ((wrap64 (x7_2 * 128)) + (Int.tmod (wrap64 (bt a0_0 x8_2)) 128))), (wrap64 (x8_2 - 1)), (by first | rfl | (simp; done) | (simp [*]; done)), (by first | rfl | (simp; done) | (simp [*]; done)), H', ⟨by have := HJ4.out; have := HK2.out; omega⟩, ⟨by (with_reducible repeat (first | refine blk_drewN ?_ _ | refine blk_drew ?_ | refine blk_alloc ?_ _)); exact BK154.out⟩, ⟨by (with_reducible repeat (first | refine blk_drewN ?_ _ | refine blk_drew ?_ | refine blk_alloc ?_ _)); exact BK155.out⟩, ⟨by repeat (first | (with_reducible first | exact HB.out | apply below_alloc | apply pw_below_drewN | apply below_drew1 | refine below_set ?_ GE154.out | refine below_set ?_ GE155.out) | exact HB.out)⟩⟩
                    · rw [if_neg c28] at H
                      exact absurd H (by simp)
                  · rw [if_neg c27] at H
                    exact absurd H (by simp)
                · rw [if_neg c26] at H
                  have c26b0 : decide (0 ≤ x8_2) = false := decide_eq_false c26
                  clear c26
                  obtain ⟨ji32, hji32⟩ : ∃ j_ : Int, (wrap64 (t156 + 1)) = j_ := ⟨_, rfl⟩
                  replace H : (if 0 ≤ (ji32) then (if (ji32) ≤ (a0_0.size : Int) then ((carabinerref02_Num.f k2 x7_2).bind fun t161 => (if t161.toList = (a0_0.extract 0 ((ji32) : Int).toNat).toList then (if x7_2 > a1 then ((carabinerref02_failed.f (a0_0.extract ((ji32) : Int).toNat a0_0.size) a0_1 21).bind fun bt162 => (some (bt162.1, bt162.2, 0))) else (some (a0_0.extract ((ji32) : Int).toNat a0_0.size, a0_1, x7_2))) else ((carabinerref02_failed.f (a0_0.extract ((ji32) : Int).toNat a0_0.size) a0_1 21).bind fun bt164 => (some (bt164.1, bt164.2, 0))))) else (none)) else (none)) = some (r1, r2, r3) := by first | (rw [hji32] at H; exact H) | (simp only [hji32] at H ⊢; exact H)
                  have hji32w : (IntKind.i64.wrap (t156 + 1)) = ji32 := (i64_w _).trans hji32
                  by_cases c33 : 0 ≤ (ji32)
                  · rw [if_pos c33] at H
                    have c33b0 := eq_true c33
                    have c33b1 : decide (0 ≤ (ji32)) = true := decide_eq_true c33
                    clear c33
                    by_cases c34 : (ji32) ≤ (a0_0.size : Int)
                    · rw [if_pos c34] at H
                      have c34b0 := eq_true c34
                      have c34b1 : decide ((ji32) ≤ (a0_0.size : Int)) = true := decide_eq_true c34
                      clear c34
                      have c35b0 := eq_true (of_decide_eq_true (by first | (with_reducible assumption) | assumption) : 0 ≤ (ji32))
                      have c36b0 := eq_true (of_decide_eq_true (by first | (with_reducible assumption) | assumption) : (ji32) ≤ (a0_0.size : Int))
                      replace H := Option.bind_eq_some_iff.mp H
                      obtain ⟨t161, A370, H⟩ := H
                      replace H : (if t161.toList = (a0_0.extract 0 ((ji32) : Int).toNat).toList then (if x7_2 > a1 then ((carabinerref02_failed.f (a0_0.extract ((ji32) : Int).toNat a0_0.size) a0_1 21).bind fun bt162 => (some (bt162.1, bt162.2, 0))) else (some (a0_0.extract ((ji32) : Int).toNat a0_0.size, a0_1, x7_2))) else ((carabinerref02_failed.f (a0_0.extract ((ji32) : Int).toNat a0_0.size) a0_1 21).bind fun bt164 => (some (bt164.1, bt164.2, 0)))) = some (r1, r2, r3) := H
                      have A37 := Aside0.mk A370
                      clear A370
                      by_cases c38 : t161.toList = (a0_0.extract 0 ((ji32) : Int).toNat).toList
                      · rw [if_pos c38] at H
                        have c38b0 : (t161.toList == (a0_0.extract 0 ((ji32) : Int).toNat).toList) = true := beq_iff_eq.mpr c38
                        have c38b1 : (t161.toList != (a0_0.extract 0 ((ji32) : Int).toNat).toList) = false := bne_eq_false_iff_eq.mpr c38
                        clear c38
                        by_cases c39 : x7_2 > a1
                        · rw [if_pos c39] at H
                          have c39b0 : decide (a1 < x7_2) = true := decide_eq_true c39
                          clear c39
                          replace H := Option.bind_eq_some_iff.mp H
                          obtain ⟨⟨t162, t163⟩, A400, H⟩ := H
                          replace H : (some (t162, t163, 0)) = some (r1, r2, r3) := H
                          have A40 := Aside0.mk A400
                          clear A400
                          simp only [Option.some.injEq, Prod.mk.injEq] at H
                          obtain ⟨rfl, rfl, rfl⟩ := H
                          have hnb41 := NB154_155.out
                          have hnc41 := NB155_154.out
                          have hcz42_0 : wr.cell? ⟨gb154, 0, none⟩ = some (.string a0_0) := (blk_cell BK154.out 0).trans rfl
                          have hcz42_1 : wr.cell? ⟨gb154, 1, none⟩ = some (.int .i64 a0_1) := (blk_cell BK154.out 1).trans rfl
                          have hfz42_0 := blk_frozen BK154.out 0
                          have hfz42_1 := blk_frozen BK154.out 1
                          go_wp2_with (first | ((with_reducible refine gate_callee (f := 33) rfl ?_); refine goesL_ (some 62) rfl rfl Try.func33 (by kernel_rfl) rfl #[.int .i64 x7_2] rfl (by (try simp only [List.map_toArray, List.map_cons, List.map_nil]); first | done | rfl | (simp only [List.length_drop, List.length_take]; rfl)) ?_; (with_reducible refine (carabinerref02_Num.calls k2 x7_2 t161 _ A37.out).mono ?_); rintro e w43 ⟨rfl, hb⟩; refine ⟨_, rfl, ?_⟩; have n0_ := Aside0.mk (blk_below (g := gb154) (o := .cells #[.string (a0_0.extract ((ji32) : Int).toNat a0_0.size), .int .i64 a0_1] 80 (0, 0)) (by (with_reducible repeat (first | refine blk_drewN ?_ _ | refine blk_drew ?_ | refine blk_alloc ?_ _)); refine blk_put (cs := #[.string a0_0, .int .i64 a0_1]) ?_ 0 _ rfl; (with_reducible repeat (first | refine blk_drewN ?_ _ | refine blk_drew ?_ | refine blk_alloc ?_ _)); exact BK154.out) hb); have n1_ := Aside0.mk (blk_below (g := gb155) (o := .cells #[.string (⟨#[]⟩ : ByteArray), .int .i64 0] 80 (0, 0)) (by (with_reducible repeat (first | refine blk_drewN ?_ _ | refine blk_drew ?_ | refine blk_alloc ?_ _)); refine blk_far ?_ NB155_154.out _; (with_reducible repeat (first | refine blk_drewN ?_ _ | refine blk_drew ?_ | refine blk_alloc ?_ _)); exact BK155.out) hb); have n2_ := Aside0.mk (below_step (by repeat (first | (with_reducible first | exact HB.out | apply below_alloc | apply pw_below_drewN | apply below_drew1 | refine below_set ?_ GE154.out | refine below_set ?_ GE155.out) | exact HB.out)) hb); clear BK154; clear BK155; clear HB; have BK154 := n0_; have BK155 := n1_; have HB := n2_; clear n0_ n1_ n2_; (try clear hb); (try clear hb2); (try clear hk); (try clear hi); have hcz44_0 : w43.cell? ⟨gb154, 0, none⟩ = some (.string (a0_0.extract ((ji32) : Int).toNat a0_0.size)) := (blk_cell BK154.out 0).trans rfl; have hcz44_1 : w43.cell? ⟨gb154, 1, none⟩ = some (.int .i64 a0_1) := (blk_cell BK154.out 1).trans rfl; have hfz44_0 := blk_frozen BK154.out 0; have hfz44_1 := blk_frozen BK154.out 1) | ((with_reducible refine gate_callee (f := 45) rfl ?_); refine goesL_ (some 71) rfl rfl Try.func45 (by kernel_rfl) rfl #[.agg #[.string (a0_0.extract ((ji32) : Int).toNat a0_0.size), .int .i64 a0_1], .int .i64 21] rfl (by (try simp only [List.map_toArray, List.map_cons, List.map_nil]); first | done | (simp only [hji32]; rfl) | rfl | (simp only [List.length_drop, List.length_take]; rfl)) ?_; (with_reducible refine (carabinerref02_failed.calls (a0_0.extract ((ji32) : Int).toNat a0_0.size) a0_1 21 t162 t163 _ A40.out).mono ?_); rintro e w45 ⟨rfl, hb⟩; refine ⟨_, rfl, ?_⟩; have n0_ := Aside0.mk (blk_below (g := gb154) (o := .cells #[.string (a0_0.extract ((ji32) : Int).toNat a0_0.size), .int .i64 a0_1] 80 (0, 0)) (by (with_reducible repeat (first | refine blk_drewN ?_ _ | refine blk_drew ?_ | refine blk_alloc ?_ _)); exact BK154.out) hb); have n1_ := Aside0.mk (blk_below (g := gb155) (o := .cells #[.string (⟨#[]⟩ : ByteArray), .int .i64 0] 80 (0, 0)) (by (with_reducible repeat (first | refine blk_drewN ?_ _ | refine blk_drew ?_ | refine blk_alloc ?_ _)); exact BK155.out) hb); have n2_ := Aside0.mk (below_step (by repeat (first | (with_reducible first | exact HB.out | apply below_alloc | apply pw_below_drewN | apply below_drew1 | refine below_set ?_ GE154.out | refine below_set ?_ GE155.out) | exact HB.out)) hb); clear BK154; clear BK155; clear HB; have BK154 := n0_; have BK155 := n1_; have HB := n2_; clear n0_ n1_ n2_; (try clear hb); (try clear hb2); (try clear hk); (try clear hi); have hcz46_0 : w45.cell? ⟨gb155, 0, none⟩ = some (.string (⟨#[]⟩ : ByteArray)) := (blk_cell BK155.out 0).trans rfl; have hcz46_1 : w45.cell? ⟨gb155, 1, none⟩ = some (.int .i64 0) := (blk_cell BK155.out 1).trans rfl; have hfz46_0 := blk_frozen BK155.out 0; have hfz46_1 := blk_frozen BK155.out 1))
                          refine bodyPost_ret (results_ct rfl _ _ gb155 80 #[.string t162, .int .i64 t163] (0, 0) _ rfl (by (with_reducible repeat (first | refine blk_drewN ?_ _ | refine blk_drew ?_ | refine blk_alloc ?_ _)); refine blk_put (cs := #[.string t162, .int .i64 0]) ?_ 1 _ rfl; (with_reducible repeat (first | refine blk_drewN ?_ _ | refine blk_drew ?_ | refine blk_alloc ?_ _)); refine blk_put (cs := #[.string (⟨#[]⟩ : ByteArray), .int .i64 0]) ?_ 0 _ rfl; (with_reducible repeat (first | refine blk_drewN ?_ _ | refine blk_drew ?_ | refine blk_alloc ?_ _)); exact BK155.out) Try.underlying80 rfl (by kernel_rfl)) rfl ?_
                          exact ⟨by first | rfl | (simp [errW_none, errW_some] <;> rfl) | (simp only [← hji32]; first | rfl | (simp [errW_none, errW_some] <;> rfl)) | (simp [*, errW_none, errW_some] <;> rfl), by repeat (first | (with_reducible first | exact HB.out | apply below_alloc | apply pw_below_drewN | apply below_drew1 | refine below_set ?_ GE154.out | refine below_set ?_ GE155.out) | exact HB.out)⟩
                        · rw [if_neg c39] at H
                          have c39b0 : decide (a1 < x7_2) = false := decide_eq_false c39
                          clear c39
                          simp only [Option.some.injEq, Prod.mk.injEq] at H
                          obtain ⟨rfl, rfl, rfl⟩ := H
                          have hnb47 := NB154_155.out
                          have hnc47 := NB155_154.out
                          have hcz48_0 : wr.cell? ⟨gb154, 0, none⟩ = some (.string a0_0) := (blk_cell BK154.out 0).trans rfl
                          have hcz48_1 : wr.cell? ⟨gb154, 1, none⟩ = some (.int .i64 a0_1) := (blk_cell BK154.out 1).trans rfl
                          have hfz48_0 := blk_frozen BK154.out 0
                          have hfz48_1 := blk_frozen BK154.out 1
                          go_wp2_with (first | ((with_reducible refine gate_callee (f := 33) rfl ?_); refine goesL_ (some 62) rfl rfl Try.func33 (by kernel_rfl) rfl #[.int .i64 x7_2] rfl (by (try simp only [List.map_toArray, List.map_cons, List.map_nil]); first | done | rfl | (simp only [List.length_drop, List.length_take]; rfl)) ?_; (with_reducible refine (carabinerref02_Num.calls k2 x7_2 t161 _ A37.out).mono ?_); rintro e w49 ⟨rfl, hb⟩; refine ⟨_, rfl, ?_⟩; have n0_ := Aside0.mk (blk_below (g := gb154) (o := .cells #[.string (a0_0.extract ((ji32) : Int).toNat a0_0.size), .int .i64 a0_1] 80 (0, 0)) (by (with_reducible repeat (first | refine blk_drewN ?_ _ | refine blk_drew ?_ | refine blk_alloc ?_ _)); refine blk_put (cs := #[.string a0_0, .int .i64 a0_1]) ?_ 0 _ rfl; (with_reducible repeat (first | refine blk_drewN ?_ _ | refine blk_drew ?_ | refine blk_alloc ?_ _)); exact BK154.out) hb); have n1_ := Aside0.mk (blk_below (g := gb155) (o := .cells #[.string (⟨#[]⟩ : ByteArray), .int .i64 0] 80 (0, 0)) (by (with_reducible repeat (first | refine blk_drewN ?_ _ | refine blk_drew ?_ | refine blk_alloc ?_ _)); refine blk_far ?_ NB155_154.out _; (with_reducible repeat (first | refine blk_drewN ?_ _ | refine blk_drew ?_ | refine blk_alloc ?_ _)); exact BK155.out) hb); have n2_ := Aside0.mk (below_step (by repeat (first | (with_reducible first | exact HB.out | apply below_alloc | apply pw_below_drewN | apply below_drew1 | refine below_set ?_ GE154.out | refine below_set ?_ GE155.out) | exact HB.out)) hb); clear BK154; clear BK155; clear HB; have BK154 := n0_; have BK155 := n1_; have HB := n2_; clear n0_ n1_ n2_; (try clear hb); (try clear hb2); (try clear hk); (try clear hi); have hcz50_0 : w49.cell? ⟨gb154, 0, none⟩ = some (.string (a0_0.extract ((ji32) : Int).toNat a0_0.size)) := (blk_cell BK154.out 0).trans rfl; have hcz50_1 : w49.cell? ⟨gb154, 1, none⟩ = some (.int .i64 a0_1) := (blk_cell BK154.out 1).trans rfl; have hfz50_0 := blk_frozen BK154.out 0; have hfz50_1 := blk_frozen BK154.out 1; have hcz51_0 : w49.cell? ⟨gb155, 0, none⟩ = some (.string (⟨#[]⟩ : ByteArray)) := (blk_cell BK155.out 0).trans rfl; have hcz51_1 : w49.cell? ⟨gb155, 1, none⟩ = some (.int .i64 0) := (blk_cell BK155.out 1).trans rfl; have hfz51_0 := blk_frozen BK155.out 0; have hfz51_1 := blk_frozen BK155.out 1))
                          refine bodyPost_ret (results_ct rfl _ _ gb155 80 #[.string (a0_0.extract ((ji32) : Int).toNat a0_0.size), .int .i64 a0_1] (0, 0) _ rfl (by (with_reducible repeat (first | refine blk_drewN ?_ _ | refine blk_drew ?_ | refine blk_alloc ?_ _)); refine blk_put (cs := #[.string (a0_0.extract ((ji32) : Int).toNat a0_0.size), .int .i64 0]) ?_ 1 _ rfl; (with_reducible repeat (first | refine blk_drewN ?_ _ | refine blk_drew ?_ | refine blk_alloc ?_ _)); refine blk_put (cs := #[.string (⟨#[]⟩ : ByteArray), .int .i64 0]) ?_ 0 _ rfl; (with_reducible repeat (first | refine blk_drewN ?_ _ | refine blk_drew ?_ | refine blk_alloc ?_ _)); exact BK155.out) Try.underlying80 rfl (by kernel_rfl)) rfl ?_
                          exact ⟨by first | rfl | (simp [errW_none, errW_some] <;> rfl) | (simp only [← hji32]; first | rfl | (simp [errW_none, errW_some] <;> rfl)) | (simp [*, errW_none, errW_some] <;> rfl), by repeat (first | (with_reducible first | exact HB.out | apply below_alloc | apply pw_below_drewN | apply below_drew1 | refine below_set ?_ GE154.out | refine below_set ?_ GE155.out) | exact HB.out)⟩
                      · rw [if_neg c38] at H
                        have c38b0 : (t161.toList == (a0_0.extract 0 ((ji32) : Int).toNat).toList) = false := beq_eq_false_iff_ne.mpr c38
                        have c38b1 : (t161.toList != (a0_0.extract 0 ((ji32) : Int).toNat).toList) = true := bne_iff_ne.mpr c38
                        replace H := Option.bind_eq_some_iff.mp H
                        obtain ⟨⟨t164, t165⟩, A520, H⟩ := H
                        replace H : (some (t164, t165, 0)) = some (r1, r2, r3) := H
                        have A52 := Aside0.mk A520
                        clear A520
                        simp only [Option.some.injEq, Prod.mk.injEq] at H
                        obtain ⟨rfl, rfl, rfl⟩ := H
                        have hnb53 := NB154_155.out
                        have hnc53 := NB155_154.out
                        have hcz54_0 : wr.cell? ⟨gb154, 0, none⟩ = some (.string a0_0) := (blk_cell BK154.out 0).trans rfl
                        have hcz54_1 : wr.cell? ⟨gb154, 1, none⟩ = some (.int .i64 a0_1) := (blk_cell BK154.out 1).trans rfl
                        have hfz54_0 := blk_frozen BK154.out 0
                        have hfz54_1 := blk_frozen BK154.out 1
                        go_wp2_with (first | ((with_reducible refine gate_callee (f := 33) rfl ?_); refine goesL_ (some 62) rfl rfl Try.func33 (by kernel_rfl) rfl #[.int .i64 x7_2] rfl (by (try simp only [List.map_toArray, List.map_cons, List.map_nil]); first | done | rfl | (simp only [List.length_drop, List.length_take]; rfl)) ?_; (with_reducible refine (carabinerref02_Num.calls k2 x7_2 t161 _ A37.out).mono ?_); rintro e w55 ⟨rfl, hb⟩; refine ⟨_, rfl, ?_⟩; have n0_ := Aside0.mk (blk_below (g := gb154) (o := .cells #[.string (a0_0.extract ((ji32) : Int).toNat a0_0.size), .int .i64 a0_1] 80 (0, 0)) (by (with_reducible repeat (first | refine blk_drewN ?_ _ | refine blk_drew ?_ | refine blk_alloc ?_ _)); refine blk_put (cs := #[.string a0_0, .int .i64 a0_1]) ?_ 0 _ rfl; (with_reducible repeat (first | refine blk_drewN ?_ _ | refine blk_drew ?_ | refine blk_alloc ?_ _)); exact BK154.out) hb); have n1_ := Aside0.mk (blk_below (g := gb155) (o := .cells #[.string (⟨#[]⟩ : ByteArray), .int .i64 0] 80 (0, 0)) (by (with_reducible repeat (first | refine blk_drewN ?_ _ | refine blk_drew ?_ | refine blk_alloc ?_ _)); refine blk_far ?_ NB155_154.out _; (with_reducible repeat (first | refine blk_drewN ?_ _ | refine blk_drew ?_ | refine blk_alloc ?_ _)); exact BK155.out) hb); have n2_ := Aside0.mk (below_step (by repeat (first | (with_reducible first | exact HB.out | apply below_alloc | apply pw_below_drewN | apply below_drew1 | refine below_set ?_ GE154.out | refine below_set ?_ GE155.out) | exact HB.out)) hb); clear BK154; clear BK155; clear HB; have BK154 := n0_; have BK155 := n1_; have HB := n2_; clear n0_ n1_ n2_; (try clear hb); (try clear hb2); (try clear hk); (try clear hi); have hcz56_0 : w55.cell? ⟨gb154, 0, none⟩ = some (.string (a0_0.extract ((ji32) : Int).toNat a0_0.size)) := (blk_cell BK154.out 0).trans rfl; have hcz56_1 : w55.cell? ⟨gb154, 1, none⟩ = some (.int .i64 a0_1) := (blk_cell BK154.out 1).trans rfl; have hfz56_0 := blk_frozen BK154.out 0; have hfz56_1 := blk_frozen BK154.out 1) | ((with_reducible refine gate_callee (f := 45) rfl ?_); refine goesL_ (some 71) rfl rfl Try.func45 (by kernel_rfl) rfl #[.agg #[.string (a0_0.extract ((ji32) : Int).toNat a0_0.size), .int .i64 a0_1], .int .i64 21] rfl (by (try simp only [List.map_toArray, List.map_cons, List.map_nil]); first | done | (simp only [hji32]; rfl) | rfl | (simp only [List.length_drop, List.length_take]; rfl)) ?_; (with_reducible refine (carabinerref02_failed.calls (a0_0.extract ((ji32) : Int).toNat a0_0.size) a0_1 21 t164 t165 _ A52.out).mono ?_); rintro e w57 ⟨rfl, hb⟩; refine ⟨_, rfl, ?_⟩; have n0_ := Aside0.mk (blk_below (g := gb154) (o := .cells #[.string (a0_0.extract ((ji32) : Int).toNat a0_0.size), .int .i64 a0_1] 80 (0, 0)) (by (with_reducible repeat (first | refine blk_drewN ?_ _ | refine blk_drew ?_ | refine blk_alloc ?_ _)); exact BK154.out) hb); have n1_ := Aside0.mk (blk_below (g := gb155) (o := .cells #[.string (⟨#[]⟩ : ByteArray), .int .i64 0] 80 (0, 0)) (by (with_reducible repeat (first | refine blk_drewN ?_ _ | refine blk_drew ?_ | refine blk_alloc ?_ _)); exact BK155.out) hb); have n2_ := Aside0.mk (below_step (by repeat (first | (with_reducible first | exact HB.out | apply below_alloc | apply pw_below_drewN | apply below_drew1 | refine below_set ?_ GE154.out | refine below_set ?_ GE155.out) | exact HB.out)) hb); clear BK154; clear BK155; clear HB; have BK154 := n0_; have BK155 := n1_; have HB := n2_; clear n0_ n1_ n2_; (try clear hb); (try clear hb2); (try clear hk); (try clear hi); have hcz58_0 : w57.cell? ⟨gb155, 0, none⟩ = some (.string (⟨#[]⟩ : ByteArray)) := (blk_cell BK155.out 0).trans rfl; have hcz58_1 : w57.cell? ⟨gb155, 1, none⟩ = some (.int .i64 0) := (blk_cell BK155.out 1).trans rfl; have hfz58_0 := blk_frozen BK155.out 0; have hfz58_1 := blk_frozen BK155.out 1))
                        refine bodyPost_ret (results_ct rfl _ _ gb155 80 #[.string t164, .int .i64 t165] (0, 0) _ rfl (by (with_reducible repeat (first | refine blk_drewN ?_ _ | refine blk_drew ?_ | refine blk_alloc ?_ _)); refine blk_put (cs := #[.string t164, .int .i64 0]) ?_ 1 _ rfl; (with_reducible repeat (first | refine blk_drewN ?_ _ | refine blk_drew ?_ | refine blk_alloc ?_ _)); refine blk_put (cs := #[.string (⟨#[]⟩ : ByteArray), .int .i64 0]) ?_ 0 _ rfl; (with_reducible repeat (first | refine blk_drewN ?_ _ | refine blk_drew ?_ | refine blk_alloc ?_ _)); exact BK155.out) Try.underlying80 rfl (by kernel_rfl)) rfl ?_
                        exact ⟨by first | rfl | (simp [errW_none, errW_some] <;> rfl) | (simp only [← hji32]; first | rfl | (simp [errW_none, errW_some] <;> rfl)) | (simp [*, errW_none, errW_some] <;> rfl), by repeat (first | (with_reducible first | exact HB.out | apply below_alloc | apply pw_below_drewN | apply below_drew1 | refine below_set ?_ GE154.out | refine below_set ?_ GE155.out) | exact HB.out)⟩
                    · rw [if_neg c34] at H
                      exact absurd H (by simp)
                  · rw [if_neg c33] at H
                    exact absurd H (by simp)
  · rw [if_neg c3] at H
    have c3b0 : (a0_1 == 0) = false := beq_eq_false_iff_ne.mpr c3
    have c3b1 : (a0_1 != 0) = true := bne_iff_ne.mpr c3
    simp only [Option.some.injEq, Prod.mk.injEq] at H
    obtain ⟨rfl, rfl, rfl⟩ := H
    go_enter Try.func37, Try.ntmps37
    go_wp2_with (first | ((with_reducible refine gate_dst (N := 2) rfl ?_); (try (refine gate_guard (by rfl) ?_; dsimp only)); refine box_event ?hg (N := 2) ?hd (cs := #[.string a0_0, .int .i64 a0_1]) (t := 80) ?hr ?_; (case hd => rfl); (case hg => rfl); (case hr => first | (go_simp; done) | (go_simp; rfl)); intro gb154 hg w59 hbox hb; have n0_ := Aside0.mk (below_step (by repeat (first | (with_reducible first | exact HB.out | apply below_alloc | apply pw_below_drewN | apply below_drew1) | exact HB.out)) hb); have n1_ := Aside0.mk (hbox); have n2_ := Aside0.mk ((by rw [hg]; exact (below_size (by repeat (first | (with_reducible first | exact HB.out | apply below_alloc | apply pw_below_drewN | apply below_drew1) | exact HB.out))) : w.heap.size ≤ gb154)); have n3_ := Aside0.mk ((by rw [hg]; exact (below_size (by repeat (first | (with_reducible first | exact HB.out | apply below_alloc | apply pw_below_drewN | apply below_drew1) | exact HB.out))) : w.heap.size ≤ gb154)); clear HB; have HB := n0_; have BK154 := n1_; have GW154 := n2_; have GE154 := n3_; clear n0_ n1_ n2_ n3_; clear hb hbox hg) | ((with_reducible refine gate_dst (N := 4) rfl ?_); (try (refine gate_guard (by rfl) ?_; dsimp only)); refine box_event ?hg (N := 4) ?hd (cs := #[.string (⟨#[]⟩ : ByteArray), .int .i64 0]) (t := 80) ?hr ?_; (case hd => rfl); (case hg => rfl); (case hr => first | (go_simp; done) | (go_simp; rfl)); intro gb155 hg w60 hbox hb; have n0_ := Aside0.mk (blk_below (g := gb154) (o := .cells #[.string a0_0, .int .i64 a0_1] 80 (0, 0)) (by (with_reducible repeat (first | refine blk_drewN ?_ _ | refine blk_drew ?_ | refine blk_alloc ?_ _)); exact BK154.out) hb); have n1_ := Aside0.mk (below_step (by repeat (first | (with_reducible first | exact HB.out | apply below_alloc | apply pw_below_drewN | apply below_drew1 | refine below_set ?_ GE154.out) | exact HB.out)) hb); have n2_ := Aside0.mk (hbox); have n3_ := Aside0.mk ((by rw [hg]; exact (below_size (by repeat (first | (with_reducible first | exact HB.out | apply below_alloc | apply pw_below_drewN | apply below_drew1 | refine below_set ?_ GE154.out) | exact HB.out))) : w.heap.size ≤ gb155)); have n4_ := Aside0.mk ((by rw [hg]; exact (below_size (by repeat (first | (with_reducible first | exact HB.out | apply below_alloc | apply pw_below_drewN | apply below_drew1 | refine below_set ?_ GE154.out) | exact HB.out))) : w.heap.size ≤ gb155)); have n5_ := Aside0.mk ((by rw [hg]; exact Nat.ne_of_lt (blk_lt (g := gb154) (o := .cells #[.string a0_0, .int .i64 a0_1] 80 (0, 0)) (by (with_reducible repeat (first | refine blk_drewN ?_ _ | refine blk_drew ?_ | refine blk_alloc ?_ _)); exact BK154.out)) : gb154 ≠ gb155)); have n6_ := Aside0.mk ((by rw [hg]; exact Nat.ne_of_gt (blk_lt (g := gb154) (o := .cells #[.string a0_0, .int .i64 a0_1] 80 (0, 0)) (by (with_reducible repeat (first | refine blk_drewN ?_ _ | refine blk_drew ?_ | refine blk_alloc ?_ _)); exact BK154.out)) : gb155 ≠ gb154)); clear BK154; clear HB; have BK154 := n0_; have HB := n1_; have BK155 := n2_; have GW155 := n3_; have GE155 := n4_; have NB154_155 := n5_; have NB155_154 := n6_; clear n0_ n1_ n2_ n3_ n4_ n5_ n6_; clear hb hbox hg; have hnb61 := NB154_155.out; have hnc61 := NB155_154.out; have hcz62_0 : w60.cell? ⟨gb154, 0, none⟩ = some (.string a0_0) := (blk_cell BK154.out 0).trans rfl; have hcz62_1 : w60.cell? ⟨gb154, 1, none⟩ = some (.int .i64 a0_1) := (blk_cell BK154.out 1).trans rfl; have hfz62_0 := blk_frozen BK154.out 0; have hfz62_1 := blk_frozen BK154.out 1; have hcz63_0 : w60.cell? ⟨gb155, 0, none⟩ = some (.string (⟨#[]⟩ : ByteArray)) := (blk_cell BK155.out 0).trans rfl; have hcz63_1 : w60.cell? ⟨gb155, 1, none⟩ = some (.int .i64 0) := (blk_cell BK155.out 1).trans rfl; have hfz63_0 := blk_frozen BK155.out 0; have hfz63_1 := blk_frozen BK155.out 1))
    refine bodyPost_ret (results_ct rfl _ _ gb155 80 #[.string a0_0, .int .i64 a0_1] (0, 0) _ rfl (by (with_reducible repeat (first | refine blk_drewN ?_ _ | refine blk_drew ?_ | refine blk_alloc ?_ _)); refine blk_put (cs := #[.string a0_0, .int .i64 0]) ?_ 1 _ rfl; (with_reducible repeat (first | refine blk_drewN ?_ _ | refine blk_drew ?_ | refine blk_alloc ?_ _)); refine blk_put (cs := #[.string (⟨#[]⟩ : ByteArray), .int .i64 0]) ?_ 0 _ rfl; (with_reducible repeat (first | refine blk_drewN ?_ _ | refine blk_drew ?_ | refine blk_alloc ?_ _)); exact BK155.out) Try.underlying80 rfl (by kernel_rfl)) rfl ?_
    exact ⟨by first | rfl | (simp [errW_none, errW_some] <;> rfl) | (simp [*, errW_none, errW_some] <;> rfl), by repeat (first | (with_reducible first | exact HB.out | apply below_alloc | apply pw_below_drewN | apply below_drew1 | refine below_set ?_ GE154.out | refine below_set ?_ GE155.out) | exact HB.out)⟩

/-! ### carabinerref02_End: function 38 -/
def carabinerref02_End.f (a0_0 : ByteArray) (a0_1 : Int) : Option (Int) := if a0_1 = 0 then (if (a0_0.size : Int) > 0 then (some 22) else (some a0_1)) else (some a0_1)
set_option maxHeartbeats 8000000 in
set_option maxRecDepth 100000 in
theorem carabinerref02_End.calls (a0_0 : ByteArray) (a0_1 : Int) (r : Int) (w : World) (h : carabinerref02_End.f a0_0 a0_1 = some r) :
    Calls Try.prog 38 #[.agg #[.string a0_0, .int .i64 a0_1]] w fun e w' => e = .returned (.int .i64 r) ∧ Below w.heap.size w w' := by
  have hu80 := Try.underlying80
  have HB := Aside0.mk (Below.refl w.heap.size w)
  have H : (if a0_1 = 0 then (if (a0_0.size : Int) > 0 then (some 22) else (some a0_1)) else (some a0_1)) = some r := h
  clear h
  by_cases c2 : a0_1 = 0
  · rw [if_pos c2] at H
    have c2b0 : (a0_1 == 0) = true := beq_iff_eq.mpr c2
    have c2b1 : (a0_1 != 0) = false := bne_eq_false_iff_eq.mpr c2
    clear c2
    by_cases c3 : (a0_0.size : Int) > 0
    · rw [if_pos c3] at H
      have c3b0 : decide (0 < (a0_0.size : Int)) = true := decide_eq_true c3
      have c3b1 : decide (0 < a0_0.size) = true := decide_eq_true (by omega)
      clear c3
      obtain rfl := Option.some.inj H
      go_enter Try.func38, Try.ntmps38
      go_wp2_with (first | ((with_reducible refine gate_dst (N := 1) rfl ?_); (try (refine gate_guard (by rfl) ?_; dsimp only)); refine box_event ?hg (N := 1) ?hd (cs := #[.string a0_0, .int .i64 a0_1]) (t := 80) ?hr ?_; (case hd => rfl); (case hg => rfl); (case hr => first | (go_simp; done) | (go_simp; rfl)); intro gb166 hg w4 hbox hb; have n0_ := Aside0.mk (below_step (by repeat (first | (with_reducible first | exact HB.out | apply below_alloc | apply pw_below_drewN | apply below_drew1) | exact HB.out)) hb); have n1_ := Aside0.mk (hbox); have n2_ := Aside0.mk ((by rw [hg]; exact (below_size (by repeat (first | (with_reducible first | exact HB.out | apply below_alloc | apply pw_below_drewN | apply below_drew1) | exact HB.out))) : w.heap.size ≤ gb166)); have n3_ := Aside0.mk ((by rw [hg]; exact (below_size (by repeat (first | (with_reducible first | exact HB.out | apply below_alloc | apply pw_below_drewN | apply below_drew1) | exact HB.out))) : w.heap.size ≤ gb166)); clear HB; have HB := n0_; have BK166 := n1_; have GW166 := n2_; have GE166 := n3_; clear n0_ n1_ n2_ n3_; clear hb hbox hg; have hcz5_0 : w4.cell? ⟨gb166, 0, none⟩ = some (.string a0_0) := (blk_cell BK166.out 0).trans rfl; have hcz5_1 : w4.cell? ⟨gb166, 1, none⟩ = some (.int .i64 a0_1) := (blk_cell BK166.out 1).trans rfl; have hfz5_0 := blk_frozen BK166.out 0; have hfz5_1 := blk_frozen BK166.out 1))
      go_ret
      exact ⟨by first | rfl | (simp [errW_none, errW_some] <;> rfl) | (simp [*, errW_none, errW_some] <;> rfl), by repeat (first | (with_reducible first | exact HB.out | apply below_alloc | apply pw_below_drewN | apply below_drew1 | refine below_set ?_ GE166.out) | exact HB.out)⟩
    · rw [if_neg c3] at H
      have c3b0 : decide (0 < (a0_0.size : Int)) = false := decide_eq_false c3
      have c3b1 : decide (0 < a0_0.size) = false := decide_eq_false (by omega)
      clear c3
      obtain rfl := Option.some.inj H
      go_enter Try.func38, Try.ntmps38
      go_wp2_with (first | ((with_reducible refine gate_dst (N := 1) rfl ?_); (try (refine gate_guard (by rfl) ?_; dsimp only)); refine box_event ?hg (N := 1) ?hd (cs := #[.string a0_0, .int .i64 a0_1]) (t := 80) ?hr ?_; (case hd => rfl); (case hg => rfl); (case hr => first | (go_simp; done) | (go_simp; rfl)); intro gb166 hg w6 hbox hb; have n0_ := Aside0.mk (below_step (by repeat (first | (with_reducible first | exact HB.out | apply below_alloc | apply pw_below_drewN | apply below_drew1) | exact HB.out)) hb); have n1_ := Aside0.mk (hbox); have n2_ := Aside0.mk ((by rw [hg]; exact (below_size (by repeat (first | (with_reducible first | exact HB.out | apply below_alloc | apply pw_below_drewN | apply below_drew1) | exact HB.out))) : w.heap.size ≤ gb166)); have n3_ := Aside0.mk ((by rw [hg]; exact (below_size (by repeat (first | (with_reducible first | exact HB.out | apply below_alloc | apply pw_below_drewN | apply below_drew1) | exact HB.out))) : w.heap.size ≤ gb166)); clear HB; have HB := n0_; have BK166 := n1_; have GW166 := n2_; have GE166 := n3_; clear n0_ n1_ n2_ n3_; clear hb hbox hg; have hcz7_0 : w6.cell? ⟨gb166, 0, none⟩ = some (.string a0_0) := (blk_cell BK166.out 0).trans rfl; have hcz7_1 : w6.cell? ⟨gb166, 1, none⟩ = some (.int .i64 a0_1) := (blk_cell BK166.out 1).trans rfl; have hfz7_0 := blk_frozen BK166.out 0; have hfz7_1 := blk_frozen BK166.out 1))
      go_ret
      exact ⟨by first | rfl | (simp [errW_none, errW_some] <;> rfl) | (simp [*, errW_none, errW_some] <;> rfl), by repeat (first | (with_reducible first | exact HB.out | apply below_alloc | apply pw_below_drewN | apply below_drew1 | refine below_set ?_ GE166.out) | exact HB.out)⟩
  · rw [if_neg c2] at H
    have c2b0 : (a0_1 == 0) = false := beq_eq_false_iff_ne.mpr c2
    have c2b1 : (a0_1 != 0) = true := bne_iff_ne.mpr c2
    obtain rfl := Option.some.inj H
    go_enter Try.func38, Try.ntmps38
    go_wp2_with (first | ((with_reducible refine gate_dst (N := 1) rfl ?_); (try (refine gate_guard (by rfl) ?_; dsimp only)); refine box_event ?hg (N := 1) ?hd (cs := #[.string a0_0, .int .i64 a0_1]) (t := 80) ?hr ?_; (case hd => rfl); (case hg => rfl); (case hr => first | (go_simp; done) | (go_simp; rfl)); intro gb166 hg w8 hbox hb; have n0_ := Aside0.mk (below_step (by repeat (first | (with_reducible first | exact HB.out | apply below_alloc | apply pw_below_drewN | apply below_drew1) | exact HB.out)) hb); have n1_ := Aside0.mk (hbox); have n2_ := Aside0.mk ((by rw [hg]; exact (below_size (by repeat (first | (with_reducible first | exact HB.out | apply below_alloc | apply pw_below_drewN | apply below_drew1) | exact HB.out))) : w.heap.size ≤ gb166)); have n3_ := Aside0.mk ((by rw [hg]; exact (below_size (by repeat (first | (with_reducible first | exact HB.out | apply below_alloc | apply pw_below_drewN | apply below_drew1) | exact HB.out))) : w.heap.size ≤ gb166)); clear HB; have HB := n0_; have BK166 := n1_; have GW166 := n2_; have GE166 := n3_; clear n0_ n1_ n2_ n3_; clear hb hbox hg; have hcz9_0 : w8.cell? ⟨gb166, 0, none⟩ = some (.string a0_0) := (blk_cell BK166.out 0).trans rfl; have hcz9_1 : w8.cell? ⟨gb166, 1, none⟩ = some (.int .i64 a0_1) := (blk_cell BK166.out 1).trans rfl; have hfz9_0 := blk_frozen BK166.out 0; have hfz9_1 := blk_frozen BK166.out 1))
    go_ret
    exact ⟨by first | rfl | (simp [errW_none, errW_some] <;> rfl) | (simp [*, errW_none, errW_some] <;> rfl), by repeat (first | (with_reducible first | exact HB.out | apply below_alloc | apply pw_below_drewN | apply below_drew1 | refine below_set ?_ GE166.out) | exact HB.out)⟩

-- NOT PRINTED: function 24 (carabinerref18_Decode)

-- NOT PRINTED: function 8 (carabinerlaw18_SessionTokens)

end Go.Proofs.Ytjilfmphdncapaa.PSessionTokens
