/- book's laws: Appended; Tail where there is no such tag. -/
import Derived.Test.YtpdibjaeopcimaaKf
set_option linter.unusedVariables false
set_option linter.unusedSimpArgs false
namespace Go.Proofs.Ytpdibjaeopcimaa
open Go.RowKit

set_option maxRecDepth 100000 in
theorem etail_bad {W : World} {eb sb : Nat} (b t : Int) (h : (tagD b t).2 = false) :
    Calls Try.prog 14 #[.pointer (some ⟨eb, 0, none⟩), .pointer (some ⟨sb, 0, none⟩), .int .i64 b, .int .i64 t] W fun e w' => e = .returned (.tuple #[plV (0, 0), .int .i64 1]) ∧ Below W.heap.size W w' := by
  have HRD := Lib.hid (fun v w => reads_bad (.pointer (some ⟨eb, 0, none⟩)) (.pointer (some ⟨sb, 0, none⟩)) b t v w h ⟨_, rfl⟩ ⟨_, rfl⟩)
  unfold plV
  simp only
  clear h
  go_enter Try.func14, Try.ntmps14
  go_wp2_with fail
  refine (HRD.out _ _).mono ?_
  rintro e w3 ⟨rfl, hw⟩
  rw [hw]
  clear hw
  go_wp2_with fail
  refine bodyPost_ret (v := .tuple #[.agg #[.int .i64 0, .int .i64 0], .int .i64 1]) (by simp [results, Try.results14, go_sem]) rfl ?_
  exact ⟨rfl, Ch.below (by (repeat (first | with_reducible assumption | with_reducible exact Ch.refl _ _ | with_reducible refine Ch.drew ?_ | with_reducible refine Ch.alloc ?_ _ | (with_reducible refine Ch.set' ?_ ?_; focus (first | (right; rfl; done) | (left; simp; done) | (left; simp; omega) | (left; omega) | (right; simp; done) | (right; simp; omega))))))⟩
theorem enter_app1 (v a b c : Value) (W : World) : (callFunc 37 (#[v] ++ #[a, b, c])).run Try.prog W = .ok (.enter 37 (#[v] ++ #[a, b, c])) W := by kernel_rfl
set_option maxRecDepth 100000 in
set_option maxHeartbeats 8000000 in
theorem app1_any {w : World} {G : Nat → Prop} {W : World} {eb x be bi ba : Nat} {t n : Int} {st : XSt} (tag : Int) (id : Pl) (h : ERun w G W eb x t n st) (h1 : Blk W be #[.pointer (some ⟨eb, 0, none⟩)] 27) (h2 : Blk W bi #[.int .i64 id.1, .int .i64 id.2] 23)
    (h4 : Blk W ba #[.int .i64 0, .int .i64 0] 39) :
    Calls Try.prog 37 #[.int .i64 tag, .pointer (some ⟨be, 0, none⟩), .pointer (some ⟨bi, 0, none⟩), .pointer (some ⟨ba, 0, none⟩)] W fun e w' => e = .returned (.int .i64 (if (findX st id).2 then 0 else 190)) ∧ Blk w' ba #[.int .i64 (findX st id).1.1, .int .i64 (findX st id).1.2] 39 ∧ Ch (fun k => k = ba) W w' := by
  obtain ⟨ia, ib⟩ := id
  have HX := fun w' (hb : Below W.heap.size W w') => xfind_any (ia, ib) w' (h.run.below hb).ix
  obtain ⟨⟨⟨sa, sb⟩, bo⟩, hr0⟩ : ∃ r, findX st (ia, ib) = r := ⟨_, rfl⟩
  simp only [hr0] at HX ⊢
  unfold plV at HX
  have HN := fun W => none_any bo W
  obtain ⟨code, hc⟩ : ∃ c : Int, (if bo = true then 0 else 190) = c := ⟨_, rfl⟩
  simp only [hc] at HN ⊢
  have HN := Lib.hid HN
  have HX := Lib.hid HX
  have H4 := Lib.hid h4
  obtain ⟨q1, q2⟩ := h1.laterCells
  obtain ⟨q3, q4⟩ := h.eng.laterCells
  obtain ⟨q5, q6⟩ := h2.laterCells
  clear h h1 h2 h4 hr0 hc
  go_enter Try.func37, Try.ntmps37
  go_upto_region 1 with fail
  go_cut [6, 7] (fun s6 s7 wx => ∃ b6 : Nat, s6 = .pointer (some ⟨b6, 0, none⟩) ∧ s7 = .bool bo ∧ Blk wx b6 #[.int .i64 sa, .int .i64 sb] 39 ∧ Below W.heap.size W wx ∧ W.heap.size ≤ b6)
  case first =>
    refine wp_region_tree (.reads [0, 1, 2, 3, 4] (.fork 5 (.reads [6, 7, 8] (.fork 9 (.fork 10 (.reads [11] .stop) .none) .none)) (.fork 9 (.fork 5 (.reads [6, 7, 8] (.fork 10 (.reads [11] .stop) .none)) .none) .none))) (T' := (.reads [_, _, _, _, _] (.fork _ (.reads [_, _, _] (.fork _ (.fork _ (.reads [_] .stop) .none) .none)) (.fork _ (.fork _ (.reads [_, _, _] (.fork _ (.reads [_] .stop) .none)) .none) .none)))) rfl (by kernel_rfl) (by kernel_rfl) (by kernel_rfl) (Nat.le_of_ble_eq_true rfl) (by kernel_rfl) ?_
    obtain ⟨c0, hc0⟩ : ∃ c, c = W.drew := ⟨_, rfl⟩
    have C0 := Lib.hid (show Below W.heap.size W c0 by rw [hc0]; exact (Below.refl _ _).drew)
    rw [← hc0]
    clear hc0
    refine wpT_reads ?_
    repeat (go_big_quiet_step (fail))
    refine wpQuiet_nil ?_
    refine wpT_fork (by kernel_rfl) ?_ ?_
    · intro K hK
      unfold mStep
      simp [go_sem]
      refine (HX.out c0 C0.out).mono ?_
      rintro e c1 ⟨rfl, hb⟩
      have C1 := Lib.hid (C0.out.trans (hb.mono C0.out.size))
      refine ⟨_, rfl, hK _ _ ⟨⟨c1, C1.out⟩, rfl⟩ ?_⟩
      clear hK K hb
      try simp only [Act.put, List.setIfInBounds_toArray, List.set]
      refine wpT_reads ?_
      repeat (go_big_quiet_step (fail))
      refine wpQuiet_nil ?_
      refine wpT_fork (by kernel_rfl) ?_ ?_
      · intro K hK
        unfold mStep
        simp [go_sem]
        have hb := below1 c1 (.cells #[.int .i64 0, .int .i64 0] 39)
        have S2 := Blk.new c1 #[.int .i64 0, .int .i64 0] 39
        obtain ⟨bS2, hb7⟩ : ∃ b, b = c1.heap.size := ⟨_, rfl⟩
        rw [← hb7] at S2 ⊢
        have LS2 := Lib.hid (show W.heap.size ≤ bS2 by have := C1.out.size; omega)
        have C2 := C1.out.trans (hb.mono C1.out.size)
        obtain ⟨c2, hc⟩ : ∃ c, c = c1.alloc (.cells #[.int .i64 0, .int .i64 0] 39) := ⟨_, rfl⟩
        rw [← hc] at S2 C2 ⊢
        have C2 := Lib.hid C2
        have S2 := Lib.hid S2
        refine hK _ _ ⟨⟨c2, C2.out⟩, rfl⟩ ?_
        clear hK K hb hc hb7
        try simp only [Act.put, List.setIfInBounds_toArray, List.set]
        refine wpT_fork (by kernel_rfl) ?_ ?_
        · intro K hK
          unfold mStep
          obtain ⟨q1, q2⟩ := S2.out.cells
          have l1 := S2.out.lt
          simp [go_sem, q1, q2, l1]
          obtain ⟨c3, hc, h1, hch, hz⟩ := set2 S2.out (.int .i64 sa) (.int .i64 sb)
          rw [← hc]
          have S3 := Lib.hid h1
          have C3 := Lib.hid (show Below W.heap.size W c3 from Ch.below ((Ch.of_below (fun _ => False) C2.out).step hch (fun j hj e => by have := LS2.out; omega)))
          refine hK _ _ ⟨⟨c3, C3.out⟩, rfl⟩ ?_
          clear hK K hc h1 hch hz q1 q2 l1
          try simp only [Act.put, List.setIfInBounds_toArray, List.set]
          refine wpT_reads ?_
          repeat (go_big_quiet_step (fail))
          refine wpQuiet_nil ?_
          refine wpT_stop ?_
          go_wp2_with fail
          go_meet
          exact ⟨bS2, rfl, rfl, S3.out, C3.out, LS2.out⟩
        · exact trivial
      · exact trivial
    · refine wpT_fork (by kernel_rfl) ?_ ?_
      · intro K hK
        unfold mStep
        simp [go_sem]
        have hb := below1 c0 (.cells #[.int .i64 0, .int .i64 0] 39)
        have S4 := Blk.new c0 #[.int .i64 0, .int .i64 0] 39
        obtain ⟨bS4, hb7⟩ : ∃ b, b = c0.heap.size := ⟨_, rfl⟩
        rw [← hb7] at S4 ⊢
        have LS4 := Lib.hid (show W.heap.size ≤ bS4 by have := C0.out.size; omega)
        have C4 := C0.out.trans (hb.mono C0.out.size)
        obtain ⟨c4, hc⟩ : ∃ c, c = c0.alloc (.cells #[.int .i64 0, .int .i64 0] 39) := ⟨_, rfl⟩
        rw [← hc] at S4 C4 ⊢
        have C4 := Lib.hid C4
        have S4 := Lib.hid S4
        refine hK _ _ ⟨⟨c4, C4.out⟩, rfl⟩ ?_
        clear hK K hb hc hb7
        try simp only [Act.put, List.setIfInBounds_toArray, List.set]
        refine wpT_fork (by kernel_rfl) ?_ ?_
        · intro K hK
          unfold mStep
          simp [go_sem]
          refine (HX.out c4 C4.out).mono ?_
          rintro e c5 ⟨rfl, hb⟩
          have S5 := Lib.hid (S4.out.below hb)
          have C5 := Lib.hid (C4.out.trans (hb.mono C4.out.size))
          refine ⟨_, rfl, hK _ _ ⟨⟨c5, C5.out⟩, rfl⟩ ?_⟩
          clear hK K hb
          try simp only [Act.put, List.setIfInBounds_toArray, List.set]
          refine wpT_reads ?_
          repeat (go_big_quiet_step (fail))
          refine wpQuiet_nil ?_
          refine wpT_fork (by kernel_rfl) ?_ ?_
          · intro K hK
            unfold mStep
            obtain ⟨q1, q2⟩ := S5.out.cells
            have l1 := S5.out.lt
            simp [go_sem, q1, q2, l1]
            obtain ⟨c6, hc, h1, hch, hz⟩ := set2 S5.out (.int .i64 sa) (.int .i64 sb)
            rw [← hc]
            have S6 := Lib.hid h1
            have C6 := Lib.hid (show Below W.heap.size W c6 from Ch.below ((Ch.of_below (fun _ => False) C5.out).step hch (fun j hj e => by have := LS4.out; omega)))
            refine hK _ _ ⟨⟨c6, C6.out⟩, rfl⟩ ?_
            clear hK K hc h1 hch hz q1 q2 l1
            try simp only [Act.put, List.setIfInBounds_toArray, List.set]
            refine wpT_reads ?_
            repeat (go_big_quiet_step (fail))
            refine wpQuiet_nil ?_
            refine wpT_stop ?_
            go_wp2_with fail
            go_meet
            exact ⟨bS4, rfl, rfl, S6.out, C6.out, LS4.out⟩
          · exact trivial
        · exact trivial
      · exact trivial
  case rest =>
    obtain ⟨b6, rfl, rfl, hS, hC, lo⟩ := hcut
    have hA := H4.out.below hC
    have HA := Lib.hid hA
    have HC := Lib.hid hC
    obtain ⟨z1, z2⟩ := hS.cells
    obtain ⟨z3, z4⟩ := hA.cells
    have m1 := hS.lt
    have m2 := hA.lt
    clear hA hC hS q1 q2 q3 q4 q5 q6 HX
    go_wp2_with fail
    refine (HN.out _).mono ?_
    rintro e w2 ⟨rfl, hw⟩
    rw [hw]
    clear hw
    go_wp2_with fail
    go_ret
    refine ⟨rfl, (HA.out.set 0 (.int .i64 sa)).set 1 (.int .i64 sb), ?_⟩
    exact (((Ch.of_below (fun k => k = ba) HC.out).set (p := ⟨ba, 0, none⟩) (.inr rfl) _).set (p := ⟨ba, 1, none⟩) (.inr rfl) _)
set_option maxRecDepth 100000 in
set_option maxHeartbeats 8000000 in
theorem eapp_any {w : World} {G : Nat → Prop} {W : World} {eb x sb : Nat} {a1 a2 c m t0 n0 : Int} {st : XSt} (id : Pl) (h : Asks w G W eb x sb a1 a2 c m t0 n0 st) :
    Calls Try.prog 13 #[.pointer (some ⟨eb, 0, none⟩), .pointer (some ⟨sb, 0, none⟩), plV id] W fun e w' => e = .returned (.tuple #[plV (findX st id).1, .int .i64 (if (findX st id).2 then 0 else 190)]) ∧ Asked W sb a1 a2 c m t0 n0 w' := by
  obtain ⟨ia, ib⟩ := id
  have hb0 : Below W.heap.size W (((W.alloc (.cells #[.pointer (some ⟨eb, 0, none⟩)] 27)).alloc (.cells #[.int .i64 ia, .int .i64 ib] 23)).alloc (.cells #[.int .i64 0, .int .i64 0] 39)) := Ch.below (by (repeat (first | with_reducible assumption | with_reducible exact Ch.refl _ _ | with_reducible refine Ch.drew ?_ | with_reducible refine Ch.alloc ?_ _ | (with_reducible refine Ch.set' ?_ ?_; focus (first | (right; rfl; done) | (left; simp; done) | (left; simp; omega) | (left; omega) | (right; simp; done) | (right; simp; omega))))))
  have B1 := ((Blk.new W #[.pointer (some ⟨eb, 0, none⟩)] 27).alloc (.cells #[.int .i64 ia, .int .i64 ib] 23)).alloc (.cells #[.int .i64 0, .int .i64 0] 39)
  have B3 := (Blk.new (W.alloc (.cells #[.pointer (some ⟨eb, 0, none⟩)] 27)) #[.int .i64 ia, .int .i64 ib] 23).alloc (.cells #[.int .i64 0, .int .i64 0] 39)
  have B2 := Blk.new ((W.alloc (.cells #[.pointer (some ⟨eb, 0, none⟩)] 27)).alloc (.cells #[.int .i64 ia, .int .i64 ib] 23)) #[.int .i64 0, .int .i64 0] 39
  simp only [World.size_alloc] at B2 B3
  obtain ⟨w0, hw0⟩ : ∃ w0, w0 = ((W.alloc (.cells #[.pointer (some ⟨eb, 0, none⟩)] 27)).alloc (.cells #[.int .i64 ia, .int .i64 ib] 23)).alloc (.cells #[.int .i64 0, .int .i64 0] 39) := ⟨_, rfl⟩
  rw [← hw0] at hb0 B1 B2 B3
  have hA := h.below hb0
  have hsl := Blk.lt h.ses
  obtain ⟨code, hc⟩ : ∃ c : Int, (if (findX st (ia, ib)).2 = true then 0 else 190) = c := ⟨_, rfl⟩
  obtain ⟨⟨sa, sb'⟩, hpl⟩ : ∃ p, (findX st (ia, ib)).1 = p := ⟨_, rfl⟩
  have HRD := Lib.hid (reads_ok (R := fun e w'' => e = .returned (.int .i64 code) ∧ Blk w'' (W.heap.size + 1 + 1) #[.int .i64 sa, .int .i64 sb'] 39 ∧ Asked W sb a1 a2 c m t0 n0 w'') (b := 0) (t := 0) (by decide) (by decide) hA.run.eng hA.ses h.ok (fun v W' => enter_app1 v (.pointer (some ⟨W.heap.size, 0, none⟩)) (.pointer (some ⟨W.heap.size + 1, 0, none⟩)) (.pointer (some ⟨W.heap.size + 1 + 1, 0, none⟩)) W') (fun w' hs' hc' => by
    obtain ⟨G', hR, _, _⟩ := hA.run.ch hc' (fun k hk => by subst hk; exact ⟨h.gs, h.ne, h.old⟩)
    refine (app1_any (1 + 1024 * 0 + 0) (ia, ib) hR (B1.ch hc' (by omega)) (B3.ch hc' (by omega)) (B2.ch hc' (by omega))).mono ?_
    rintro e w'' ⟨he, hb, hc2⟩
    rw [hc] at he
    rw [hpl] at hb
    refine ⟨code, he, he, hb, Blk.ch hs' hc2 (by omega), ?_⟩
    exact ((Ch.of_below _ hb0).trans hc').step hc2 (fun j hj e => by omega)))
  unfold plV
  simp only [hc, hpl]
  have HSL := Lib.hid hsl
  clear h hA hc hpl B1 B2 B3 hsl
  have HB0 := Lib.hid hb0
  clear hb0
  go_enter Try.func13, Try.ntmps13
  go_wp2_with fail
  rw [← hw0]
  clear hw0
  refine HRD.out.mono ?_
  rintro e w3 ⟨rfl, hb3, hA3⟩
  have H3 := Lib.hid hb3
  have HA3 := Lib.hid hA3
  obtain ⟨q1, q2⟩ := hb3.cells
  have l1 := hb3.lt
  clear hb3 hA3
  go_wp2_with fail
  obtain ⟨f1, _⟩ := ((H3.out.set 0 (.int .i64 sa)).set 1 (.int .i64 sb')).cells
  refine bodyPost_ret (v := .tuple #[.agg #[.int .i64 sa, .int .i64 sb'], .int .i64 code]) (by simp [results, Try.results13, go_sem, f1]) rfl ⟨rfl, ?_⟩
  have hcs : Ch (fun k => k = W.heap.size + 1 + 1) w3 _ := (((Ch.refl (fun k => k = W.heap.size + 1 + 1) w3).set (p := ⟨W.heap.size + 1 + 1, 0, none⟩) (.inr rfl) (.int .i64 sa)).set (p := ⟨W.heap.size + 1 + 1, 1, none⟩) (.inr rfl) (.int .i64 sb'))
  have hsl := HSL.out
  exact ⟨Blk.ch HA3.out.ses hcs (by omega), HA3.out.ch.step hcs (fun j hj e => by omega)⟩
end Go.Proofs.Ytpdibjaeopcimaa
