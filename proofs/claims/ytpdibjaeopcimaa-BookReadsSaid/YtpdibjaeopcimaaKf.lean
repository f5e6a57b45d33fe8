/- book's laws: reads, and what Next asks. -/
import Derived.Test.YtpdibjaeopcimaaKg
import Derived.Test.YtpdibjaeopcimaaTree
set_option linter.unusedVariables false
set_option linter.unusedSimpArgs false
namespace Go.Proofs.Ytpdibjaeopcimaa
open Go.RowKit

theorem enter_next1 (v a b c d : Value) (W : World) : (callFunc 42 (#[v] ++ #[a, b, c, d])).run Try.prog W = .ok (.enter 42 (#[v] ++ #[a, b, c, d])) W := by kernel_rfl
/-- A record and a place are stored, each into a block that was there. -/
theorem stored6 {w : World} {b1 b2 T1 T2 : Nat} {c0 c1 c2 c3 d0 d1 : Value} (h1 : Blk w b1 #[c0, c1, c2, c3] T1) (h2 : Blk w b2 #[d0, d1] T2) (hn : b1 ≠ b2) (a0 a1 a2 a3 e0 e1 : Value) :
    ∃ w', w' = (((((w.setCell ⟨b1, 0, none⟩ a0).setCell ⟨b1, 1, none⟩ a1).setCell ⟨b1, 2, none⟩ a2).setCell ⟨b1, 3, none⟩ a3).setCell ⟨b2, 0, none⟩ e0).setCell ⟨b2, 1, none⟩ e1 ∧
      Blk w' b1 #[a0, a1, a2, a3] T1 ∧ Blk w' b2 #[e0, e1] T2 ∧ Ch (fun k => k = b1 ∨ k = b2) w w' ∧ w'.heap.size = w.heap.size :=
  ⟨_, rfl, (((((h1.set 0 a0).set 1 a1).set 2 a2).set 3 a3).far (p := ⟨b2, 0, none⟩) hn e0).far (p := ⟨b2, 1, none⟩) hn e1,
    (((((h2.far (p := ⟨b1, 0, none⟩) hn.symm a0).far (p := ⟨b1, 1, none⟩) hn.symm a1).far (p := ⟨b1, 2, none⟩) hn.symm a2).far (p := ⟨b1, 3, none⟩) hn.symm a3).set 0 e0).set 1 e1,
    ((((((Ch.refl _ w).set (p := ⟨b1, 0, none⟩) (.inr (.inl rfl)) a0).set (p := ⟨b1, 1, none⟩) (.inr (.inl rfl)) a1).set (p := ⟨b1, 2, none⟩) (.inr (.inl rfl)) a2).set (p := ⟨b1, 3, none⟩) (.inr (.inl rfl)) a3).set (p := ⟨b2, 0, none⟩) (.inr (.inr rfl)) e0).set (p := ⟨b2, 1, none⟩) (.inr (.inr rfl)) e1, by simp [World.setCell]⟩
theorem set4 {w : World} {b1 T1 : Nat} {c0 c1 c2 c3 : Value} (h1 : Blk w b1 #[c0, c1, c2, c3] T1) (a0 a1 a2 a3 : Value) :
    ∃ w', w' = (((w.setCell ⟨b1, 0, none⟩ a0).setCell ⟨b1, 1, none⟩ a1).setCell ⟨b1, 2, none⟩ a2).setCell ⟨b1, 3, none⟩ a3 ∧ Blk w' b1 #[a0, a1, a2, a3] T1 ∧ Ch (fun k => k = b1) w w' ∧ w'.heap.size = w.heap.size :=
  ⟨_, rfl, (((h1.set 0 a0).set 1 a1).set 2 a2).set 3 a3, ((((Ch.refl (fun k => k = b1) w).set (p := ⟨b1, 0, none⟩) (.inr rfl) a0).set (p := ⟨b1, 1, none⟩) (.inr rfl) a1).set (p := ⟨b1, 2, none⟩) (.inr rfl) a2).set (p := ⟨b1, 3, none⟩) (.inr rfl) a3, by simp [World.setCell]⟩
theorem set2 {w : World} {b2 T2 : Nat} {d0 d1 : Value} (h2 : Blk w b2 #[d0, d1] T2) (e0 e1 : Value) :
    ∃ w', w' = (w.setCell ⟨b2, 0, none⟩ e0).setCell ⟨b2, 1, none⟩ e1 ∧ Blk w' b2 #[e0, e1] T2 ∧ Ch (fun k => k = b2) w w' ∧ w'.heap.size = w.heap.size :=
  ⟨_, rfl, (h2.set 0 e0).set 1 e1, ((Ch.refl (fun k => k = b2) w).set (p := ⟨b2, 0, none⟩) (.inr rfl) e0).set (p := ⟨b2, 1, none⟩) (.inr rfl) e1, by simp [World.setCell]⟩
/-- What Next asks. -/
def askE (g : Bool) (o : Option Rw) : Option Rw × Int := if g then (none, 191) else (o, if o.isSome then 0 else 190)
def nextE (st : XSt) (tag : Int) (a : Pl) : Option Rw × Int := askE (goneX st tag a || goneX st 0 a) (nextX st tag a)
/-- What an asking leaves in its two blocks. -/
def AskPost (br ba : Nat) (o : Option Rw) (W : World) (w' : World) : Prop :=
  ∃ tv, Blk w' br #[.int .i64 (o.getD rw0).r.id.1, .int .i64 (o.getD rw0).r.id.2, tv, .string (o.getD rw0).r.data] 26 ∧ Blk w' ba #[.int .i64 (o.getD rw0).pl.1, .int .i64 (o.getD rw0).pl.2] 39 ∧ VRow (fun k => W.heap.size ≤ k) 1 intO w' tv (o.getD rw0).r.tags ∧ Ch (fun k => k = br ∨ k = ba) W w'
set_option maxRecDepth 100000 in
set_option maxHeartbeats 8000000 in
theorem next1_any {w : World} {G : Nat → Prop} {W : World} {eb x be bf br ba : Nat} {t n : Int} {st : XSt} (tag : Int) (a : Pl) (h : ERun w G W eb x t n st) (hm : st.rows.length ≤ 4194304) (h1 : Blk W be #[.pointer (some ⟨eb, 0, none⟩)] 27) (h2 : Blk W bf #[.int .i64 a.1, .int .i64 a.2] 39)
    (h3 : Blk W br #[.int .i64 0, .int .i64 0, .slice none 0 0, .string ⟨#[]⟩] 26) (h4 : Blk W ba #[.int .i64 0, .int .i64 0] 39) (hne : br ≠ ba) :
    Calls Try.prog 42 #[.int .i64 tag, .pointer (some ⟨be, 0, none⟩), .pointer (some ⟨bf, 0, none⟩), .pointer (some ⟨br, 0, none⟩), .pointer (some ⟨ba, 0, none⟩)] W fun e w' => e = .returned (.int .i64 (nextE st tag a).2) ∧ AskPost br ba (nextE st tag a).1 W w' := by
  obtain ⟨aa, ab⟩ := a
  have HE := Lib.hid h
  have HG1 := gone_any tag (aa, ab) h
  have HG0 := Lib.hid (fun w' (hb : Below W.heap.size W w') => gone_any 0 (aa, ab) (h.below hb))
  have HX := Lib.hid (fun w' (hb : Below W.heap.size W w') => xnext_any tag (aa, ab) w' (h.run.below hb).ix h.run.good hm)
  have H1 := Lib.hid h1
  have H2 := Lib.hid h2
  have H3 := Lib.hid h3
  have H4 := Lib.hid h4
  obtain ⟨g1, hg1⟩ : ∃ b, goneX st tag (aa, ab) = b := ⟨_, rfl⟩
  obtain ⟨g0, hg0⟩ : ∃ b, goneX st 0 (aa, ab) = b := ⟨_, rfl⟩
  have HN := Lib.hid (show nextE st tag (aa, ab) = askE (g1 || g0) (nextX st tag (aa, ab)) by unfold nextE; rw [hg1, hg0])
  rw [hg1] at HG1
  unfold plV at HG1 HG0 HX
  have HG1 := Lib.hid HG1
  rw [hg0] at HG0
  obtain ⟨q1, q2⟩ := h1.cells
  obtain ⟨q3, q4⟩ := h2.cells
  have l1 := h1.lt
  have l2 := h2.lt
  simp only at q3
  clear h h1 h2 h3 h4 hg1 hg0
  go_enter Try.func42, Try.ntmps42
  go_wp2_with fail
  refine HG1.out.mono ?_
  rintro e w1 ⟨rfl, hb1⟩
  have HB1 := Lib.hid hb1
  cases g1 with
  | true =>
    have hr := H3.out.below hb1
    have ha := H4.out.below hb1
    go_wp2_with fail
    go_ret
    rw [HN.out]
    exact ⟨rfl, _, hr, ha, VRow.nil _ _, Ch.of_below _ hb1⟩
  | false =>
    clear q1 q2 q3 q4 l1 l2 hb1
    obtain ⟨q1, q2⟩ := (H1.out.below HB1.out).cells
    obtain ⟨q3, q4⟩ := (H2.out.below HB1.out).cells
    have l1 := (H1.out.below HB1.out).lt
    have l2 := (H2.out.below HB1.out).lt
    go_wp2_with fail
    refine (HG0.out _ HB1.out).mono ?_
    rintro e w2 ⟨rfl, hb2⟩
    have HB2 := Lib.hid (HB1.out.trans (hb2.mono HB1.out.size))
    clear q1 q2 q3 q4 l1 l2 hb2
    cases g0 with
    | true =>
      have hr := H3.out.below HB2.out
      have ha := H4.out.below HB2.out
      go_wp2_with fail
      go_ret
      rw [HN.out]
      exact ⟨rfl, _, hr, ha, VRow.nil _ _, Ch.of_below _ HB2.out⟩
    | false =>
      obtain ⟨o, ho⟩ : ∃ o, nextX st tag (aa, ab) = o := ⟨_, rfl⟩
      rw [ho] at HX HN
      obtain ⟨r0, hr0⟩ : ∃ r, o.getD rw0 = r := ⟨_, rfl⟩
      obtain ⟨bo, hbo⟩ : ∃ b, o.isSome = b := ⟨_, rfl⟩
      obtain ⟨⟨sa, sb⟩, ⟨⟨ia, ib⟩, tags, data⟩⟩ := r0
      have HX2 := Lib.hid (show ∀ w', Below w2.heap.size w2 w' → Calls Try.prog 44 #[.pointer (some ⟨x, 0, none⟩), .int .i64 tag, .agg #[.int .i64 aa, .int .i64 ab]] w' fun e w'' => ∃ tv, e = .returned (.tuple #[.agg #[.int .i64 ia, .int .i64 ib, tv, .string data], .agg #[.int .i64 sa, .int .i64 sb], .bool bo]) ∧ VRow (fun k => w'.heap.size ≤ k) 1 intO w'' tv tags ∧ Below w'.heap.size w' w'' from fun w' hb => by
        have h := HX.out w' (HB2.out.trans (hb.mono HB2.out.size))
        unfold ToldPost at h
        rw [hr0, hbo] at h
        exact h)
      have HR0 := Lib.hid hr0
      have HBO := Lib.hid hbo
      obtain ⟨z1, z2⟩ := (H1.out.below HB2.out).laterCells
      obtain ⟨z3, z4⟩ := (H2.out.below HB2.out).laterCells
      obtain ⟨z5, z6⟩ := (HE.out.below HB2.out).eng.laterCells
      clear ho hr0 hbo
      go_upto_region 3 with fail
      go_cut [7, 8, 9] (fun s7 s8 s9 wx => ∃ (b7 b8 : Nat) (tv : Value), s7 = .pointer (some ⟨b7, 0, none⟩) ∧ s8 = .pointer (some ⟨b8, 0, none⟩) ∧ s9 = .bool bo ∧ Blk wx b7 #[.int .i64 ia, .int .i64 ib, tv, .string data] 26 ∧ Blk wx b8 #[.int .i64 sa, .int .i64 sb] 39 ∧ VRow (fun k => w2.heap.size ≤ k) 1 intO wx tv tags ∧ Below w2.heap.size w2 wx ∧ w2.heap.size ≤ b7 ∧ w2.heap.size ≤ b8)
      case first =>
        refine wp_region_tree (.reads [0, 1, 2, 3, 4, 5] (.fork 6 (.reads [7, 8, 9, 10] (.fork 11 (.fork 12 (.fork 13 (.fork 14 (.reads [15] .stop) .none) .none) .none) (.fork 12 (.fork 11 (.fork 13 (.fork 14 (.reads [15] .stop) .none) .none) .none) .none))) (.fork 11 (.fork 6 (.reads [7, 8, 9, 10] (.fork 12 (.fork 13 (.fork 14 (.reads [15] .stop) .none) .none) .none)) (.fork 12 (.fork 6 (.reads [7, 8, 9, 10] (.fork 13 (.fork 14 (.reads [15] .stop) .none) .none)) .none) .none)) (.fork 12 (.fork 6 (.reads [7, 8, 9, 10] (.fork 11 (.fork 13 (.fork 14 (.reads [15] .stop) .none) .none) .none)) (.fork 11 (.fork 6 (.reads [7, 8, 9, 10] (.fork 13 (.fork 14 (.reads [15] .stop) .none) .none)) .none) .none)) .none)))) (T' := (.reads [_, _, _, _, _, _] (.fork _ (.reads [_, _, _, _] (.fork _ (.fork _ (.fork _ (.fork _ (.reads [_] .stop) .none) .none) .none) (.fork _ (.fork _ (.fork _ (.fork _ (.reads [_] .stop) .none) .none) .none) .none))) (.fork _ (.fork _ (.reads [_, _, _, _] (.fork _ (.fork _ (.fork _ (.reads [_] .stop) .none) .none) .none)) (.fork _ (.fork _ (.reads [_, _, _, _] (.fork _ (.fork _ (.reads [_] .stop) .none) .none)) .none) .none)) (.fork _ (.fork _ (.reads [_, _, _, _] (.fork _ (.fork _ (.fork _ (.reads [_] .stop) .none) .none) .none)) (.fork _ (.fork _ (.reads [_, _, _, _] (.fork _ (.fork _ (.reads [_] .stop) .none) .none)) .none) .none)) .none))))) rfl (by kernel_rfl) (by kernel_rfl) (by kernel_rfl) (Nat.le_of_ble_eq_true rfl) (by kernel_rfl) ?_
        obtain ⟨c0, hc0⟩ : ∃ c, c = w2.drew := ⟨_, rfl⟩
        have C0 := Lib.hid (show Below w2.heap.size w2 c0 by rw [hc0]; exact (Below.refl _ _).drew)
        rw [← hc0]
        clear hc0
        refine wpT_reads ?_
        repeat (go_big_quiet_step (fail))
        refine wpQuiet_nil ?_
        refine wpT_fork (by kernel_rfl) ?_ ?_
        · intro K hK
          unfold mStep
          simp [go_sem]
          refine (HX2.out c0 C0.out).mono ?_
          rintro e c1 ⟨tv1, rfl, hva, hb⟩
          obtain ⟨ta1, tcap1, rfl, _, _⟩ := hva.slice
          have V1 := Lib.hid (hva.mono (S' := fun k => w2.heap.size ≤ k) (fun k _ h => Nat.le_trans C0.out.size h))
          have C1 := Lib.hid (C0.out.trans (hb.mono C0.out.size))
          refine ⟨_, rfl, hK _ _ ⟨⟨c1, C1.out⟩, rfl⟩ ?_⟩
          clear hK K hva hb
          try simp only [Act.put, List.setIfInBounds_toArray, List.set]
          refine wpT_reads ?_
          repeat (go_big_quiet_step (fail))
          refine wpQuiet_nil ?_
          refine wpT_fork (by kernel_rfl) ?_ ?_
          · intro K hK
            unfold mStep
            simp [go_sem]
            have hb := below1 c1 (.cells #[.int .i64 0, .int .i64 0, .slice none 0 0, .string ⟨#[]⟩] 26)
            have R2 := Blk.new c1 #[.int .i64 0, .int .i64 0, .slice none 0 0, .string ⟨#[]⟩] 26
            obtain ⟨bR2, hb7⟩ : ∃ b, b = c1.heap.size := ⟨_, rfl⟩
            rw [← hb7] at R2 ⊢
            have LR2 := Lib.hid (show w2.heap.size ≤ bR2 by have := C1.out.size; omega)
            have V2 := Lib.hid ((V1.out.mono (S' := fun k => w2.heap.size ≤ k ∧ k ≠ bR2) (fun k hlt h => ⟨h, by omega⟩)).below hb)
            have C2 := C1.out.trans (hb.mono C1.out.size)
            obtain ⟨c2, hc⟩ : ∃ c, c = c1.alloc (.cells #[.int .i64 0, .int .i64 0, .slice none 0 0, .string ⟨#[]⟩] 26) := ⟨_, rfl⟩
            rw [← hc] at R2 C2 V2 ⊢
            have C2 := Lib.hid C2
            have R2 := Lib.hid R2
            refine hK _ _ ⟨⟨c2, C2.out⟩, rfl⟩ ?_
            clear hK K hb hc hb7
            try simp only [Act.put, List.setIfInBounds_toArray, List.set]
            refine wpT_fork (by kernel_rfl) ?_ ?_
            · intro K hK
              unfold mStep
              simp [go_sem]
              have hb := below1 c2 (.cells #[.int .i64 0, .int .i64 0] 39)
              have S3 := Blk.new c2 #[.int .i64 0, .int .i64 0] 39
              obtain ⟨bS3, hb7⟩ : ∃ b, b = c2.heap.size := ⟨_, rfl⟩
              rw [← hb7] at S3 ⊢
              have LS3 := Lib.hid (show w2.heap.size ≤ bS3 by have := C2.out.size; omega)
              have N3 := Lib.hid (show bR2 ≠ bS3 by have := R2.out.lt; omega)
              have R3 := Lib.hid (R2.out.below hb)
              have V3 := Lib.hid ((V2.out.mono (S' := fun k => w2.heap.size ≤ k ∧ k ≠ bR2 ∧ k ≠ bS3) (fun k hlt h => ⟨h.1, h.2, by omega⟩)).below hb)
              have C3 := C2.out.trans (hb.mono C2.out.size)
              obtain ⟨c3, hc⟩ : ∃ c, c = c2.alloc (.cells #[.int .i64 0, .int .i64 0] 39) := ⟨_, rfl⟩
              rw [← hc] at S3 C3 R3 V3 ⊢
              have C3 := Lib.hid C3
              have S3 := Lib.hid S3
              refine hK _ _ ⟨⟨c3, C3.out⟩, rfl⟩ ?_
              clear hK K hb hc hb7
              try simp only [Act.put, List.setIfInBounds_toArray, List.set]
              refine wpT_fork (by kernel_rfl) ?_ ?_
              · intro K hK
                unfold mStep
                obtain ⟨q1, q2⟩ := R3.out.cells
                have l1 := R3.out.lt
                simp [go_sem, q1, q2, l1]
                obtain ⟨c4, hc, h1, hch, hz⟩ := set4 R3.out (.int .i64 ia) (.int .i64 ib) (.slice ta1 tags.length tcap1) (.string data)
                rw [← hc]
                have R4 := Lib.hid h1
                have S4 := Lib.hid (S3.out.ch hch (by have := N3.out; omega))
                have V4 := Lib.hid (V3.out.ch hch (fun k hk e => by omega))
                have C4 := Lib.hid (show Below w2.heap.size w2 c4 from Ch.below ((Ch.of_below (fun _ => False) C3.out).step hch (fun j hj e => by have := LR2.out; omega)))
                refine hK _ _ ⟨⟨c4, C4.out⟩, rfl⟩ ?_
                clear hK K hc h1 hch hz q1 q2 l1
                try simp only [Act.put, List.setIfInBounds_toArray, List.set]
                refine wpT_fork (by kernel_rfl) ?_ ?_
                · intro K hK
                  unfold mStep
                  obtain ⟨q1, q2⟩ := S4.out.cells
                  have l1 := S4.out.lt
                  simp [go_sem, q1, q2, l1]
                  obtain ⟨c5, hc, h1, hch, hz⟩ := set2 S4.out (.int .i64 sa) (.int .i64 sb)
                  rw [← hc]
                  have S5 := Lib.hid h1
                  have R5 := Lib.hid (R4.out.ch hch (by have := N3.out; omega))
                  have V5 := Lib.hid (V4.out.ch hch (fun k hk e => by omega))
                  have C5 := Lib.hid (show Below w2.heap.size w2 c5 from Ch.below ((Ch.of_below (fun _ => False) C4.out).step hch (fun j hj e => by have := LS3.out; omega)))
                  refine hK _ _ ⟨⟨c5, C5.out⟩, rfl⟩ ?_
                  clear hK K hc h1 hch hz q1 q2 l1
                  try simp only [Act.put, List.setIfInBounds_toArray, List.set]
                  refine wpT_reads ?_
                  repeat (go_big_quiet_step (fail))
                  refine wpQuiet_nil ?_
                  refine wpT_stop ?_
                  go_wp2_with fail
                  go_meet
                  exact ⟨bR2, bS3, _, rfl, rfl, rfl, R5.out, S5.out, V5.out.mono fun k _ h => h.1, C5.out, LR2.out, LS3.out⟩
                · exact trivial
              · exact trivial
            · exact trivial
          · refine wpT_fork (by kernel_rfl) ?_ ?_
            · intro K hK
              unfold mStep
              simp [go_sem]
              have hb := below1 c1 (.cells #[.int .i64 0, .int .i64 0] 39)
              have S6 := Blk.new c1 #[.int .i64 0, .int .i64 0] 39
              obtain ⟨bS6, hb7⟩ : ∃ b, b = c1.heap.size := ⟨_, rfl⟩
              rw [← hb7] at S6 ⊢
              have LS6 := Lib.hid (show w2.heap.size ≤ bS6 by have := C1.out.size; omega)
              have V6 := Lib.hid ((V1.out.mono (S' := fun k => w2.heap.size ≤ k ∧ k ≠ bS6) (fun k hlt h => ⟨h, by omega⟩)).below hb)
              have C6 := C1.out.trans (hb.mono C1.out.size)
              obtain ⟨c6, hc⟩ : ∃ c, c = c1.alloc (.cells #[.int .i64 0, .int .i64 0] 39) := ⟨_, rfl⟩
              rw [← hc] at S6 C6 V6 ⊢
              have C6 := Lib.hid C6
              have S6 := Lib.hid S6
              refine hK _ _ ⟨⟨c6, C6.out⟩, rfl⟩ ?_
              clear hK K hb hc hb7
              try simp only [Act.put, List.setIfInBounds_toArray, List.set]
              refine wpT_fork (by kernel_rfl) ?_ ?_
              · intro K hK
                unfold mStep
                simp [go_sem]
                have hb := below1 c6 (.cells #[.int .i64 0, .int .i64 0, .slice none 0 0, .string ⟨#[]⟩] 26)
                have R7 := Blk.new c6 #[.int .i64 0, .int .i64 0, .slice none 0 0, .string ⟨#[]⟩] 26
                obtain ⟨bR7, hb7⟩ : ∃ b, b = c6.heap.size := ⟨_, rfl⟩
                rw [← hb7] at R7 ⊢
                have LR7 := Lib.hid (show w2.heap.size ≤ bR7 by have := C6.out.size; omega)
                have N7 := Lib.hid (show bS6 ≠ bR7 by have := S6.out.lt; omega)
                have S7 := Lib.hid (S6.out.below hb)
                have V7 := Lib.hid ((V6.out.mono (S' := fun k => w2.heap.size ≤ k ∧ k ≠ bS6 ∧ k ≠ bR7) (fun k hlt h => ⟨h.1, h.2, by omega⟩)).below hb)
                have C7 := C6.out.trans (hb.mono C6.out.size)
                obtain ⟨c7, hc⟩ : ∃ c, c = c6.alloc (.cells #[.int .i64 0, .int .i64 0, .slice none 0 0, .string ⟨#[]⟩] 26) := ⟨_, rfl⟩
                rw [← hc] at R7 C7 S7 V7 ⊢
                have C7 := Lib.hid C7
                have R7 := Lib.hid R7
                refine hK _ _ ⟨⟨c7, C7.out⟩, rfl⟩ ?_
                clear hK K hb hc hb7
                try simp only [Act.put, List.setIfInBounds_toArray, List.set]
                refine wpT_fork (by kernel_rfl) ?_ ?_
                · intro K hK
                  unfold mStep
                  obtain ⟨q1, q2⟩ := R7.out.cells
                  have l1 := R7.out.lt
                  simp [go_sem, q1, q2, l1]
                  obtain ⟨c8, hc, h1, hch, hz⟩ := set4 R7.out (.int .i64 ia) (.int .i64 ib) (.slice ta1 tags.length tcap1) (.string data)
                  rw [← hc]
                  have R8 := Lib.hid h1
                  have S8 := Lib.hid (S7.out.ch hch (by have := N7.out; omega))
                  have V8 := Lib.hid (V7.out.ch hch (fun k hk e => by omega))
                  have C8 := Lib.hid (show Below w2.heap.size w2 c8 from Ch.below ((Ch.of_below (fun _ => False) C7.out).step hch (fun j hj e => by have := LR7.out; omega)))
                  refine hK _ _ ⟨⟨c8, C8.out⟩, rfl⟩ ?_
                  clear hK K hc h1 hch hz q1 q2 l1
                  try simp only [Act.put, List.setIfInBounds_toArray, List.set]
                  refine wpT_fork (by kernel_rfl) ?_ ?_
                  · intro K hK
                    unfold mStep
                    obtain ⟨q1, q2⟩ := S8.out.cells
                    have l1 := S8.out.lt
                    simp [go_sem, q1, q2, l1]
                    obtain ⟨c9, hc, h1, hch, hz⟩ := set2 S8.out (.int .i64 sa) (.int .i64 sb)
                    rw [← hc]
                    have S9 := Lib.hid h1
                    have R9 := Lib.hid (R8.out.ch hch (by have := N7.out; omega))
                    have V9 := Lib.hid (V8.out.ch hch (fun k hk e => by omega))
                    have C9 := Lib.hid (show Below w2.heap.size w2 c9 from Ch.below ((Ch.of_below (fun _ => False) C8.out).step hch (fun j hj e => by have := LS6.out; omega)))
                    refine hK _ _ ⟨⟨c9, C9.out⟩, rfl⟩ ?_
                    clear hK K hc h1 hch hz q1 q2 l1
                    try simp only [Act.put, List.setIfInBounds_toArray, List.set]
                    refine wpT_reads ?_
                    repeat (go_big_quiet_step (fail))
                    refine wpQuiet_nil ?_
                    refine wpT_stop ?_
                    go_wp2_with fail
                    go_meet
                    exact ⟨bR7, bS6, _, rfl, rfl, rfl, R9.out, S9.out, V9.out.mono fun k _ h => h.1, C9.out, LR7.out, LS6.out⟩
                  · exact trivial
                · exact trivial
              · exact trivial
            · exact trivial
        · refine wpT_fork (by kernel_rfl) ?_ ?_
          · intro K hK
            unfold mStep
            simp [go_sem]
            have hb := below1 c0 (.cells #[.int .i64 0, .int .i64 0, .slice none 0 0, .string ⟨#[]⟩] 26)
            have R10 := Blk.new c0 #[.int .i64 0, .int .i64 0, .slice none 0 0, .string ⟨#[]⟩] 26
            obtain ⟨bR10, hb7⟩ : ∃ b, b = c0.heap.size := ⟨_, rfl⟩
            rw [← hb7] at R10 ⊢
            have LR10 := Lib.hid (show w2.heap.size ≤ bR10 by have := C0.out.size; omega)
            have C10 := C0.out.trans (hb.mono C0.out.size)
            obtain ⟨c10, hc⟩ : ∃ c, c = c0.alloc (.cells #[.int .i64 0, .int .i64 0, .slice none 0 0, .string ⟨#[]⟩] 26) := ⟨_, rfl⟩
            rw [← hc] at R10 C10 ⊢
            have C10 := Lib.hid C10
            have R10 := Lib.hid R10
            refine hK _ _ ⟨⟨c10, C10.out⟩, rfl⟩ ?_
            clear hK K hb hc hb7
            try simp only [Act.put, List.setIfInBounds_toArray, List.set]
            refine wpT_fork (by kernel_rfl) ?_ ?_
            · intro K hK
              unfold mStep
              simp [go_sem]
              refine (HX2.out c10 C10.out).mono ?_
              rintro e c11 ⟨tv11, rfl, hva, hb⟩
              obtain ⟨ta11, tcap11, rfl, _, _⟩ := hva.slice
              have R11 := Lib.hid (R10.out.below hb)
              have V11 := Lib.hid (hva.mono (S' := fun k => w2.heap.size ≤ k ∧ k ≠ bR10) (fun k _ h => by have := C10.out.size; have := R10.out.lt; exact ⟨by omega, by omega⟩))
              have C11 := Lib.hid (C10.out.trans (hb.mono C10.out.size))
              refine ⟨_, rfl, hK _ _ ⟨⟨c11, C11.out⟩, rfl⟩ ?_⟩
              clear hK K hva hb
              try simp only [Act.put, List.setIfInBounds_toArray, List.set]
              refine wpT_reads ?_
              repeat (go_big_quiet_step (fail))
              refine wpQuiet_nil ?_
              refine wpT_fork (by kernel_rfl) ?_ ?_
              · intro K hK
                unfold mStep
                simp [go_sem]
                have hb := below1 c11 (.cells #[.int .i64 0, .int .i64 0] 39)
                have S12 := Blk.new c11 #[.int .i64 0, .int .i64 0] 39
                obtain ⟨bS12, hb7⟩ : ∃ b, b = c11.heap.size := ⟨_, rfl⟩
                rw [← hb7] at S12 ⊢
                have LS12 := Lib.hid (show w2.heap.size ≤ bS12 by have := C11.out.size; omega)
                have N12 := Lib.hid (show bR10 ≠ bS12 by have := R11.out.lt; omega)
                have R12 := Lib.hid (R11.out.below hb)
                have V12 := Lib.hid ((V11.out.mono (S' := fun k => w2.heap.size ≤ k ∧ k ≠ bR10 ∧ k ≠ bS12) (fun k hlt h => ⟨h.1, h.2, by omega⟩)).below hb)
                have C12 := C11.out.trans (hb.mono C11.out.size)
                obtain ⟨c12, hc⟩ : ∃ c, c = c11.alloc (.cells #[.int .i64 0, .int .i64 0] 39) := ⟨_, rfl⟩
                rw [← hc] at S12 C12 R12 V12 ⊢
                have C12 := Lib.hid C12
                have S12 := Lib.hid S12
                refine hK _ _ ⟨⟨c12, C12.out⟩, rfl⟩ ?_
                clear hK K hb hc hb7
                try simp only [Act.put, List.setIfInBounds_toArray, List.set]
                refine wpT_fork (by kernel_rfl) ?_ ?_
                · intro K hK
                  unfold mStep
                  obtain ⟨q1, q2⟩ := R12.out.cells
                  have l1 := R12.out.lt
                  simp [go_sem, q1, q2, l1]
                  obtain ⟨c13, hc, h1, hch, hz⟩ := set4 R12.out (.int .i64 ia) (.int .i64 ib) (.slice ta11 tags.length tcap11) (.string data)
                  rw [← hc]
                  have R13 := Lib.hid h1
                  have S13 := Lib.hid (S12.out.ch hch (by have := N12.out; omega))
                  have V13 := Lib.hid (V12.out.ch hch (fun k hk e => by omega))
                  have C13 := Lib.hid (show Below w2.heap.size w2 c13 from Ch.below ((Ch.of_below (fun _ => False) C12.out).step hch (fun j hj e => by have := LR10.out; omega)))
                  refine hK _ _ ⟨⟨c13, C13.out⟩, rfl⟩ ?_
                  clear hK K hc h1 hch hz q1 q2 l1
                  try simp only [Act.put, List.setIfInBounds_toArray, List.set]
                  refine wpT_fork (by kernel_rfl) ?_ ?_
                  · intro K hK
                    unfold mStep
                    obtain ⟨q1, q2⟩ := S13.out.cells
                    have l1 := S13.out.lt
                    simp [go_sem, q1, q2, l1]
                    obtain ⟨c14, hc, h1, hch, hz⟩ := set2 S13.out (.int .i64 sa) (.int .i64 sb)
                    rw [← hc]
                    have S14 := Lib.hid h1
                    have R14 := Lib.hid (R13.out.ch hch (by have := N12.out; omega))
                    have V14 := Lib.hid (V13.out.ch hch (fun k hk e => by omega))
                    have C14 := Lib.hid (show Below w2.heap.size w2 c14 from Ch.below ((Ch.of_below (fun _ => False) C13.out).step hch (fun j hj e => by have := LS12.out; omega)))
                    refine hK _ _ ⟨⟨c14, C14.out⟩, rfl⟩ ?_
                    clear hK K hc h1 hch hz q1 q2 l1
                    try simp only [Act.put, List.setIfInBounds_toArray, List.set]
                    refine wpT_reads ?_
                    repeat (go_big_quiet_step (fail))
                    refine wpQuiet_nil ?_
                    refine wpT_stop ?_
                    go_wp2_with fail
                    go_meet
                    exact ⟨bR10, bS12, _, rfl, rfl, rfl, R14.out, S14.out, V14.out.mono fun k _ h => h.1, C14.out, LR10.out, LS12.out⟩
                  · exact trivial
                · exact trivial
              · exact trivial
            · refine wpT_fork (by kernel_rfl) ?_ ?_
              · intro K hK
                unfold mStep
                simp [go_sem]
                have hb := below1 c10 (.cells #[.int .i64 0, .int .i64 0] 39)
                have S15 := Blk.new c10 #[.int .i64 0, .int .i64 0] 39
                obtain ⟨bS15, hb7⟩ : ∃ b, b = c10.heap.size := ⟨_, rfl⟩
                rw [← hb7] at S15 ⊢
                have LS15 := Lib.hid (show w2.heap.size ≤ bS15 by have := C10.out.size; omega)
                have N15 := Lib.hid (show bR10 ≠ bS15 by have := R10.out.lt; omega)
                have R15 := Lib.hid (R10.out.below hb)
                have C15 := C10.out.trans (hb.mono C10.out.size)
                obtain ⟨c15, hc⟩ : ∃ c, c = c10.alloc (.cells #[.int .i64 0, .int .i64 0] 39) := ⟨_, rfl⟩
                rw [← hc] at S15 C15 R15 ⊢
                have C15 := Lib.hid C15
                have S15 := Lib.hid S15
                refine hK _ _ ⟨⟨c15, C15.out⟩, rfl⟩ ?_
                clear hK K hb hc hb7
                try simp only [Act.put, List.setIfInBounds_toArray, List.set]
                refine wpT_fork (by kernel_rfl) ?_ ?_
                · intro K hK
                  unfold mStep
                  simp [go_sem]
                  refine (HX2.out c15 C15.out).mono ?_
                  rintro e c16 ⟨tv16, rfl, hva, hb⟩
                  obtain ⟨ta16, tcap16, rfl, _, _⟩ := hva.slice
                  have R16 := Lib.hid (R15.out.below hb)
                  have S16 := Lib.hid (S15.out.below hb)
                  have V16 := Lib.hid (hva.mono (S' := fun k => w2.heap.size ≤ k ∧ k ≠ bR10 ∧ k ≠ bS15) (fun k _ h => by have := C15.out.size; have := R15.out.lt; have := S15.out.lt; exact ⟨by omega, by omega, by omega⟩))
                  have C16 := Lib.hid (C15.out.trans (hb.mono C15.out.size))
                  refine ⟨_, rfl, hK _ _ ⟨⟨c16, C16.out⟩, rfl⟩ ?_⟩
                  clear hK K hva hb
                  try simp only [Act.put, List.setIfInBounds_toArray, List.set]
                  refine wpT_reads ?_
                  repeat (go_big_quiet_step (fail))
                  refine wpQuiet_nil ?_
                  refine wpT_fork (by kernel_rfl) ?_ ?_
                  · intro K hK
                    unfold mStep
                    obtain ⟨q1, q2⟩ := R16.out.cells
                    have l1 := R16.out.lt
                    simp [go_sem, q1, q2, l1]
                    obtain ⟨c17, hc, h1, hch, hz⟩ := set4 R16.out (.int .i64 ia) (.int .i64 ib) (.slice ta16 tags.length tcap16) (.string data)
                    rw [← hc]
                    have R17 := Lib.hid h1
                    have S17 := Lib.hid (S16.out.ch hch (by have := N15.out; omega))
                    have V17 := Lib.hid (V16.out.ch hch (fun k hk e => by omega))
                    have C17 := Lib.hid (show Below w2.heap.size w2 c17 from Ch.below ((Ch.of_below (fun _ => False) C16.out).step hch (fun j hj e => by have := LR10.out; omega)))
                    refine hK _ _ ⟨⟨c17, C17.out⟩, rfl⟩ ?_
                    clear hK K hc h1 hch hz q1 q2 l1
                    try simp only [Act.put, List.setIfInBounds_toArray, List.set]
                    refine wpT_fork (by kernel_rfl) ?_ ?_
                    · intro K hK
                      unfold mStep
                      obtain ⟨q1, q2⟩ := S17.out.cells
                      have l1 := S17.out.lt
                      simp [go_sem, q1, q2, l1]
                      obtain ⟨c18, hc, h1, hch, hz⟩ := set2 S17.out (.int .i64 sa) (.int .i64 sb)
                      rw [← hc]
                      have S18 := Lib.hid h1
                      have R18 := Lib.hid (R17.out.ch hch (by have := N15.out; omega))
                      have V18 := Lib.hid (V17.out.ch hch (fun k hk e => by omega))
                      have C18 := Lib.hid (show Below w2.heap.size w2 c18 from Ch.below ((Ch.of_below (fun _ => False) C17.out).step hch (fun j hj e => by have := LS15.out; omega)))
                      refine hK _ _ ⟨⟨c18, C18.out⟩, rfl⟩ ?_
                      clear hK K hc h1 hch hz q1 q2 l1
                      try simp only [Act.put, List.setIfInBounds_toArray, List.set]
                      refine wpT_reads ?_
                      repeat (go_big_quiet_step (fail))
                      refine wpQuiet_nil ?_
                      refine wpT_stop ?_
                      go_wp2_with fail
                      go_meet
                      exact ⟨bR10, bS15, _, rfl, rfl, rfl, R18.out, S18.out, V18.out.mono fun k _ h => h.1, C18.out, LR10.out, LS15.out⟩
                    · exact trivial
                  · exact trivial
                · exact trivial
              · exact trivial
          · refine wpT_fork (by kernel_rfl) ?_ ?_
            · intro K hK
              unfold mStep
              simp [go_sem]
              have hb := below1 c0 (.cells #[.int .i64 0, .int .i64 0] 39)
              have S19 := Blk.new c0 #[.int .i64 0, .int .i64 0] 39
              obtain ⟨bS19, hb7⟩ : ∃ b, b = c0.heap.size := ⟨_, rfl⟩
              rw [← hb7] at S19 ⊢
              have LS19 := Lib.hid (show w2.heap.size ≤ bS19 by have := C0.out.size; omega)
              have C19 := C0.out.trans (hb.mono C0.out.size)
              obtain ⟨c19, hc⟩ : ∃ c, c = c0.alloc (.cells #[.int .i64 0, .int .i64 0] 39) := ⟨_, rfl⟩
              rw [← hc] at S19 C19 ⊢
              have C19 := Lib.hid C19
              have S19 := Lib.hid S19
              refine hK _ _ ⟨⟨c19, C19.out⟩, rfl⟩ ?_
              clear hK K hb hc hb7
              try simp only [Act.put, List.setIfInBounds_toArray, List.set]
              refine wpT_fork (by kernel_rfl) ?_ ?_
              · intro K hK
                unfold mStep
                simp [go_sem]
                refine (HX2.out c19 C19.out).mono ?_
                rintro e c20 ⟨tv20, rfl, hva, hb⟩
                obtain ⟨ta20, tcap20, rfl, _, _⟩ := hva.slice
                have S20 := Lib.hid (S19.out.below hb)
                have V20 := Lib.hid (hva.mono (S' := fun k => w2.heap.size ≤ k ∧ k ≠ bS19) (fun k _ h => by have := C19.out.size; have := S19.out.lt; exact ⟨by omega, by omega⟩))
                have C20 := Lib.hid (C19.out.trans (hb.mono C19.out.size))
                refine ⟨_, rfl, hK _ _ ⟨⟨c20, C20.out⟩, rfl⟩ ?_⟩
                clear hK K hva hb
                try simp only [Act.put, List.setIfInBounds_toArray, List.set]
                refine wpT_reads ?_
                repeat (go_big_quiet_step (fail))
                refine wpQuiet_nil ?_
                refine wpT_fork (by kernel_rfl) ?_ ?_
                · intro K hK
                  unfold mStep
                  simp [go_sem]
                  have hb := below1 c20 (.cells #[.int .i64 0, .int .i64 0, .slice none 0 0, .string ⟨#[]⟩] 26)
                  have R21 := Blk.new c20 #[.int .i64 0, .int .i64 0, .slice none 0 0, .string ⟨#[]⟩] 26
                  obtain ⟨bR21, hb7⟩ : ∃ b, b = c20.heap.size := ⟨_, rfl⟩
                  rw [← hb7] at R21 ⊢
                  have LR21 := Lib.hid (show w2.heap.size ≤ bR21 by have := C20.out.size; omega)
                  have N21 := Lib.hid (show bS19 ≠ bR21 by have := S20.out.lt; omega)
                  have S21 := Lib.hid (S20.out.below hb)
                  have V21 := Lib.hid ((V20.out.mono (S' := fun k => w2.heap.size ≤ k ∧ k ≠ bS19 ∧ k ≠ bR21) (fun k hlt h => ⟨h.1, h.2, by omega⟩)).below hb)
                  have C21 := C20.out.trans (hb.mono C20.out.size)
                  obtain ⟨c21, hc⟩ : ∃ c, c = c20.alloc (.cells #[.int .i64 0, .int .i64 0, .slice none 0 0, .string ⟨#[]⟩] 26) := ⟨_, rfl⟩
                  rw [← hc] at R21 C21 S21 V21 ⊢
                  have C21 := Lib.hid C21
                  have R21 := Lib.hid R21
                  refine hK _ _ ⟨⟨c21, C21.out⟩, rfl⟩ ?_
                  clear hK K hb hc hb7
                  try simp only [Act.put, List.setIfInBounds_toArray, List.set]
                  refine wpT_fork (by kernel_rfl) ?_ ?_
                  · intro K hK
                    unfold mStep
                    obtain ⟨q1, q2⟩ := R21.out.cells
                    have l1 := R21.out.lt
                    simp [go_sem, q1, q2, l1]
                    obtain ⟨c22, hc, h1, hch, hz⟩ := set4 R21.out (.int .i64 ia) (.int .i64 ib) (.slice ta20 tags.length tcap20) (.string data)
                    rw [← hc]
                    have R22 := Lib.hid h1
                    have S22 := Lib.hid (S21.out.ch hch (by have := N21.out; omega))
                    have V22 := Lib.hid (V21.out.ch hch (fun k hk e => by omega))
                    have C22 := Lib.hid (show Below w2.heap.size w2 c22 from Ch.below ((Ch.of_below (fun _ => False) C21.out).step hch (fun j hj e => by have := LR21.out; omega)))
                    refine hK _ _ ⟨⟨c22, C22.out⟩, rfl⟩ ?_
                    clear hK K hc h1 hch hz q1 q2 l1
                    try simp only [Act.put, List.setIfInBounds_toArray, List.set]
                    refine wpT_fork (by kernel_rfl) ?_ ?_
                    · intro K hK
                      unfold mStep
                      obtain ⟨q1, q2⟩ := S22.out.cells
                      have l1 := S22.out.lt
                      simp [go_sem, q1, q2, l1]
                      obtain ⟨c23, hc, h1, hch, hz⟩ := set2 S22.out (.int .i64 sa) (.int .i64 sb)
                      rw [← hc]
                      have S23 := Lib.hid h1
                      have R23 := Lib.hid (R22.out.ch hch (by have := N21.out; omega))
                      have V23 := Lib.hid (V22.out.ch hch (fun k hk e => by omega))
                      have C23 := Lib.hid (show Below w2.heap.size w2 c23 from Ch.below ((Ch.of_below (fun _ => False) C22.out).step hch (fun j hj e => by have := LS19.out; omega)))
                      refine hK _ _ ⟨⟨c23, C23.out⟩, rfl⟩ ?_
                      clear hK K hc h1 hch hz q1 q2 l1
                      try simp only [Act.put, List.setIfInBounds_toArray, List.set]
                      refine wpT_reads ?_
                      repeat (go_big_quiet_step (fail))
                      refine wpQuiet_nil ?_
                      refine wpT_stop ?_
                      go_wp2_with fail
                      go_meet
                      exact ⟨bR21, bS19, _, rfl, rfl, rfl, R23.out, S23.out, V23.out.mono fun k _ h => h.1, C23.out, LR21.out, LS19.out⟩
                    · exact trivial
                  · exact trivial
                · exact trivial
              · refine wpT_fork (by kernel_rfl) ?_ ?_
                · intro K hK
                  unfold mStep
                  simp [go_sem]
                  have hb := below1 c19 (.cells #[.int .i64 0, .int .i64 0, .slice none 0 0, .string ⟨#[]⟩] 26)
                  have R24 := Blk.new c19 #[.int .i64 0, .int .i64 0, .slice none 0 0, .string ⟨#[]⟩] 26
                  obtain ⟨bR24, hb7⟩ : ∃ b, b = c19.heap.size := ⟨_, rfl⟩
                  rw [← hb7] at R24 ⊢
                  have LR24 := Lib.hid (show w2.heap.size ≤ bR24 by have := C19.out.size; omega)
                  have N24 := Lib.hid (show bS19 ≠ bR24 by have := S19.out.lt; omega)
                  have S24 := Lib.hid (S19.out.below hb)
                  have C24 := C19.out.trans (hb.mono C19.out.size)
                  obtain ⟨c24, hc⟩ : ∃ c, c = c19.alloc (.cells #[.int .i64 0, .int .i64 0, .slice none 0 0, .string ⟨#[]⟩] 26) := ⟨_, rfl⟩
                  rw [← hc] at R24 C24 S24 ⊢
                  have C24 := Lib.hid C24
                  have R24 := Lib.hid R24
                  refine hK _ _ ⟨⟨c24, C24.out⟩, rfl⟩ ?_
                  clear hK K hb hc hb7
                  try simp only [Act.put, List.setIfInBounds_toArray, List.set]
                  refine wpT_fork (by kernel_rfl) ?_ ?_
                  · intro K hK
                    unfold mStep
                    simp [go_sem]
                    refine (HX2.out c24 C24.out).mono ?_
                    rintro e c25 ⟨tv25, rfl, hva, hb⟩
                    obtain ⟨ta25, tcap25, rfl, _, _⟩ := hva.slice
                    have S25 := Lib.hid (S24.out.below hb)
                    have R25 := Lib.hid (R24.out.below hb)
                    have V25 := Lib.hid (hva.mono (S' := fun k => w2.heap.size ≤ k ∧ k ≠ bS19 ∧ k ≠ bR24) (fun k _ h => by have := C24.out.size; have := S24.out.lt; have := R24.out.lt; exact ⟨by omega, by omega, by omega⟩))
                    have C25 := Lib.hid (C24.out.trans (hb.mono C24.out.size))
                    refine ⟨_, rfl, hK _ _ ⟨⟨c25, C25.out⟩, rfl⟩ ?_⟩
                    clear hK K hva hb
                    try simp only [Act.put, List.setIfInBounds_toArray, List.set]
                    refine wpT_reads ?_
                    repeat (go_big_quiet_step (fail))
                    refine wpQuiet_nil ?_
                    refine wpT_fork (by kernel_rfl) ?_ ?_
                    · intro K hK
                      unfold mStep
                      obtain ⟨q1, q2⟩ := R25.out.cells
                      have l1 := R25.out.lt
                      simp [go_sem, q1, q2, l1]
                      obtain ⟨c26, hc, h1, hch, hz⟩ := set4 R25.out (.int .i64 ia) (.int .i64 ib) (.slice ta25 tags.length tcap25) (.string data)
                      rw [← hc]
                      have R26 := Lib.hid h1
                      have S26 := Lib.hid (S25.out.ch hch (by have := N24.out; omega))
                      have V26 := Lib.hid (V25.out.ch hch (fun k hk e => by omega))
                      have C26 := Lib.hid (show Below w2.heap.size w2 c26 from Ch.below ((Ch.of_below (fun _ => False) C25.out).step hch (fun j hj e => by have := LR24.out; omega)))
                      refine hK _ _ ⟨⟨c26, C26.out⟩, rfl⟩ ?_
                      clear hK K hc h1 hch hz q1 q2 l1
                      try simp only [Act.put, List.setIfInBounds_toArray, List.set]
                      refine wpT_fork (by kernel_rfl) ?_ ?_
                      · intro K hK
                        unfold mStep
                        obtain ⟨q1, q2⟩ := S26.out.cells
                        have l1 := S26.out.lt
                        simp [go_sem, q1, q2, l1]
                        obtain ⟨c27, hc, h1, hch, hz⟩ := set2 S26.out (.int .i64 sa) (.int .i64 sb)
                        rw [← hc]
                        have S27 := Lib.hid h1
                        have R27 := Lib.hid (R26.out.ch hch (by have := N24.out; omega))
                        have V27 := Lib.hid (V26.out.ch hch (fun k hk e => by omega))
                        have C27 := Lib.hid (show Below w2.heap.size w2 c27 from Ch.below ((Ch.of_below (fun _ => False) C26.out).step hch (fun j hj e => by have := LS19.out; omega)))
                        refine hK _ _ ⟨⟨c27, C27.out⟩, rfl⟩ ?_
                        clear hK K hc h1 hch hz q1 q2 l1
                        try simp only [Act.put, List.setIfInBounds_toArray, List.set]
                        refine wpT_reads ?_
                        repeat (go_big_quiet_step (fail))
                        refine wpQuiet_nil ?_
                        refine wpT_stop ?_
                        go_wp2_with fail
                        go_meet
                        exact ⟨bR24, bS19, _, rfl, rfl, rfl, R27.out, S27.out, V27.out.mono fun k _ h => h.1, C27.out, LR24.out, LS19.out⟩
                      · exact trivial
                    · exact trivial
                  · exact trivial
                · exact trivial
            · exact trivial
      case rest =>
        obtain ⟨b7, b8, tv, rfl, rfl, rfl, hR, hS, hV, hC, lo7, lo8⟩ := hcut
        obtain ⟨ta, tcap, rfl, _, _⟩ := hV.slice
        obtain ⟨q1, q2⟩ := hR.cells
        obtain ⟨q3, q4⟩ := hS.cells
        have m1 := hR.lt
        have m2 := hS.lt
        have HBW := Lib.hid (HB2.out.trans (hC.mono HB2.out.size))
        have hr := H3.out.below HBW.out
        have ha := H4.out.below HBW.out
        have hr2 := H3.out.below HB2.out
        have ha2 := H4.out.below HB2.out
        obtain ⟨q5, q6⟩ := hr.cells
        obtain ⟨q7, q8⟩ := ha.cells
        have m3 := hr.lt
        have m4 := ha.lt
        have HRr := Lib.hid hr
        have HAr := Lib.hid ha
        have HVr := Lib.hid (show VRow (fun k => W.heap.size ≤ k) 1 intO wc (.slice ta tags.length tcap) tags from hV.mono fun k _ h => Nat.le_trans HB2.out.size h)
        have HLT := Lib.hid (show br < W.heap.size ∧ ba < W.heap.size from ⟨H3.out.lt, H4.out.lt⟩)
        have HNE := Lib.hid hne
        have u1 := HB2.out.size
        have u2 := H3.out.lt
        have u3 := H4.out.lt
        have n1 : b7 ≠ br := by omega
        have n2 : b8 ≠ br := by omega
        have n3 : b7 ≠ ba := by omega
        have n4 : b8 ≠ ba := by omega
        have n5 : br ≠ b7 := by omega
        have n6 : br ≠ b8 := by omega
        clear u1 u2 u3 lo7 lo8
        have hne2 : ba ≠ br := fun e => hne e.symm
        have HNN := fun w => none_any bo w
        obtain ⟨code, hcd⟩ : ∃ c : Int, (if bo = true then 0 else 190) = c := ⟨_, rfl⟩
        simp only [hcd] at HNN
        have HNN := Lib.hid HNN
        have HE2 := Lib.hid (show nextE st tag (aa, ab) = (o, code) by rw [HN.out]; unfold askE; rw [HBO.out, hcd]; rfl)
        clear hR hS hV hC hr ha hr2 ha2 hcd
        go_wp2_with fail
        go_region
        all_goals
          go_wp2_with fail
          refine (HNN.out _).mono ?_
          rintro e w9 ⟨rfl, hw⟩
          rw [hw]
          clear hw
          go_wp2_with fail
          obtain ⟨w', hw', hr, ha, hch, hz⟩ := stored6 HRr.out HAr.out HNE.out (.int .i64 ia) (.int .i64 ib) (.slice ta tags.length tcap) (.string data) (.int .i64 sa) (.int .i64 sb)
          rw [← hw']
          go_ret
          rw [HE2.out]
          refine ⟨rfl, .slice ta tags.length tcap, ?_⟩
          simp only [HR0.out]
          exact ⟨hr, ha, HVr.out.ch hch.drew (fun k hk e => by have := HLT.out; omega), (Ch.of_below _ HBW.out).trans hch.drew⟩
end Go.Proofs.Ytpdibjaeopcimaa
