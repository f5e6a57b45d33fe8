/- book's laws: Apply, of one item. -/
import Derived.Test.YtpdibjaeopcimaaKj
import Derived.Test.YtpdibjaeopcimaaKi
set_option linter.unusedVariables false
set_option linter.unusedSimpArgs false
namespace Go.Proofs.Ytpdibjaeopcimaa
open Go.RowKit

def it10O (p : It × Value) : List Value := [.int .i64 p.1.kind, .int .i64 p.1.seq.1, .int .i64 p.1.seq.2, .int .i64 p.1.r.id.1, .int .i64 p.1.r.id.2, p.2, .string p.1.r.data, .int .i64 p.1.tag, .int .i64 p.1.upto.1, .int .i64 p.1.upto.2]
theorem Run.less {w : World} {G G' : Nat → Prop} {w1 : World} {x : Nat} {st : XSt} (h : Run w G' w1 x st) (hs : ∀ k, G k → G' k) (ho : ∀ k, k < w.heap.size → G k) : Run w G w1 x st := ⟨h.ix.mono hs, h.good, ho, h.ch⟩
/-- Apply's loop. -/
def ApIn (w w0 : World) (G : Nat → Prop) (eb x bt : Nat) (t n a1 a2 : Int) (r : XSt × Int) (v22 : Value) (wi : World) : Prop :=
  (v22 = .int .i64 0 ∧ Below w0.heap.size w0 wi) ∨ (v22 = .int .i64 1 ∧ r.2 = 0 ∧ Run w G wi x r.1 ∧ Blk wi eb #[.pointer (some ⟨x, 0, none⟩), .int .i64 t, .int .i64 n] 73 ∧ Blk wi bt #[.int .i64 a1, .int .i64 a2] 37 ∧ Ch (fun k => ¬ G k) w0 wi)
set_option maxRecDepth 100000 in
set_option maxHeartbeats 8000000 in
theorem eapply_any {w : World} {G S : Nat → Prop} {w1 : World} {eb x : Nat} {t n : Int} {st : XSt} (h : ERun w G w1 eb x t n st) (a1 a2 : Int) (hr : Sn.rightB a1 a2 = true) (hl : Sn.lessB a1 a2 t n = false) (i : It) (tv v : Value) (hv : VRow S 10 it10O w1 v [(i, tv)]) (htv : VRow S 1 intO w1 tv i.r.tags) (hSG : ∀ k, S k → G k ∧ k ≠ eb)
    (hm : st.rows.length ≤ 4000000) (ha : st.applied ≤ 4000000) (htl : i.r.tags.length ≤ 140737488351232) {r : XSt × Int} (hx : applyX st i = r) :
    Calls Try.prog 12 #[.pointer (some ⟨eb, 0, none⟩), .agg #[.int .i64 a1, .int .i64 a2], v] w1 fun e w' => e = .returned (.int .i64 (if r.2 = 0 then 0 else 1)) ∧ ERun w G w' eb x (if r.2 = 0 then a1 else t) (if r.2 = 0 then a2 else n) r.1 ∧ Ch (fun k => ¬ G k ∨ k = eb) w1 w' := by
  have hb0 := below1 w1 (.cells #[.int .i64 a1, .int .i64 a2] 37)
  have B0 := Blk.new w1 #[.int .i64 a1, .int .i64 a2] 37
  obtain ⟨w0, hw0⟩ : ∃ w0, w0 = w1.alloc (.cells #[.int .i64 a1, .int .i64 a2] 37) := ⟨_, rfl⟩
  rw [← hw0] at hb0 B0
  obtain ⟨G0, hR0, hG0, hn0⟩ := h.run.grow hb0
  have hbt : G0 w1.heap.size := hn0 _ (Nat.le_refl _) B0.lt
  have HE0 := Lib.hid (h.eng.below hb0)
  have HB0 := Lib.hid hb0
  have HT0 := Lib.hid B0
  have HR0 := Lib.hid hR0
  have HG0 := Lib.hid hG0
  have HGB := Lib.hid (And.intro hbt (hG0 _ h.ge))
  have HGO := Lib.hid (And.intro h.run.old h.ge)
  have HNW := Lib.hid (And.intro h.new h.eng.lt)
  have HV0 := Lib.hid (hv.below hb0)
  have HTV0 := Lib.hid (htv.below hb0)
  have HSG := Lib.hid (fun k hk => hG0 k (hSG k hk).1)
  have HM := Lib.hid (And.intro hm (And.intro ha htl))
  have HX := Lib.hid hx
  have HRI := Lib.hid (fun y : Later w0 => Sn.right_any a1 a2 y.w)
  have HLE := Lib.hid (fun y : Later w0 => Sn.less_any a1 a2 t n y.w)
  rw [hr] at HRI
  rw [hl] at HLE
  obtain ⟨va, cap, e, _, _⟩ := hv.slice
  rw [List.length_singleton] at e
  subst e
  obtain ⟨z1, z2⟩ := HE0.out.laterCells
  obtain ⟨z3, z4⟩ := HT0.out.laterCells
  clear h hr hl hv htv hSG hm ha htl hx hb0 B0 hR0 hG0 hn0 hbt
  go_enter Try.func12, Try.ntmps12
  go_wp2_with fail
  rw [← hw0]
  clear hw0
  refine wp_region_later (by kernel_rfl) (by kernel_rfl) ?_
  repeat (go_big_quiet_step (first | (go_at_call 33; exact Calls.later (HRI.out _)) | (go_at_call 34; exact Calls.later (HLE.out _))))
  refine wpQuiet_nil ?_
  rintro _ ⟨y, rfl⟩
  have HY := Lib.hid y.h
  obtain ⟨wy, hwy⟩ : ∃ w, w = y.w := ⟨_, rfl⟩
  rw [← hwy] at HY ⊢
  clear hwy z1 z2 z3 z4 HRI HLE
  go_wp2_with fail
  go_loopw [22] (fun v22 wi => ApIn w w0 G0 eb x w1.heap.size t n a1 a2 r v22 wi) (fun v _ => 1 - (intOf v).toNat)
  case atStart => exact .inl ⟨rfl, HY.out⟩
  case round =>
    rcases hrel with ⟨rfl, hbr⟩ | ⟨rfl, h0, hR, hE, hT, hC⟩
    · have HBR := Lib.hid hbr
      obtain ⟨g, off, cap', e, hat⟩ := (HV0.out.below hbr).at (i := 0) (x := (i, tv)) rfl
      cases e
      obtain ⟨kind, ⟨s1, s2⟩, ⟨⟨i1, i2⟩, tags, data⟩, tag, ⟨u1, u2⟩, ⟨f1, f2⟩⟩ := i
      obtain ⟨ta, tcap, e, _, _⟩ := HTV0.out.slice
      simp only at e
      subst e
      have c0 : wr.cell? ⟨g, off, none⟩ = some (.int .i64 kind) := by simpa using hat 0 _ rfl
      have c1 : wr.cell? ⟨g, off + 1, none⟩ = some (.int .i64 s1) := by simpa using hat 1 _ rfl
      have c2 : wr.cell? ⟨g, off + 2, none⟩ = some (.int .i64 s2) := by simpa using hat 2 _ rfl
      have c3 : wr.cell? ⟨g, off + 3, none⟩ = some (.int .i64 i1) := by simpa using hat 3 _ rfl
      have c4 : wr.cell? ⟨g, off + 4, none⟩ = some (.int .i64 i2) := by simpa using hat 4 _ rfl
      have c5 : wr.cell? ⟨g, off + 5, none⟩ = some (.slice ta tags.length tcap) := by simpa using hat 5 _ rfl
      have c6 : wr.cell? ⟨g, off + 6, none⟩ = some (.string data) := by simpa using hat 6 _ rfl
      have c7 : wr.cell? ⟨g, off + 7, none⟩ = some (.int .i64 tag) := by simpa using hat 7 _ rfl
      have c8 : wr.cell? ⟨g, off + 8, none⟩ = some (.int .i64 u1) := by simpa using hat 8 _ rfl
      have c9 : wr.cell? ⟨g, off + 9, none⟩ = some (.int .i64 u2) := by simpa using hat 9 _ rfl
      have hbi := below1 wr (.cells #[.int .i64 kind, .int .i64 s1, .int .i64 s2, .int .i64 i1, .int .i64 i2, .slice ta tags.length tcap, .string data, .int .i64 tag, .int .i64 u1, .int .i64 u2] 41)
      have HI := Lib.hid (Blk.new wr #[.int .i64 kind, .int .i64 s1, .int .i64 s2, .int .i64 i1, .int .i64 i2, .slice ta tags.length tcap, .string data, .int .i64 tag, .int .i64 u1, .int .i64 u2] 41)
      obtain ⟨w5, hw5⟩ : ∃ w5, w5 = wr.alloc (.cells #[.int .i64 kind, .int .i64 s1, .int .i64 s2, .int .i64 i1, .int .i64 i2, .slice ta tags.length tcap, .string data, .int .i64 tag, .int .i64 u1, .int .i64 u2] 41) := ⟨_, rfl⟩
      rw [← hw5] at hbi HI
      have hb5 := hbr.trans (hbi.mono hbr.size)
      have HB5 := Lib.hid hb5
      have HAP := Lib.hid (fun w' (hb : Below w0.heap.size w0 w') => (HR0.out.below hb).apply ⟨kind, (s1, s2), ⟨(i1, i2), tags, data⟩, tag, (u1, u2), (f1, f2)⟩ _ (HTV0.out.below hb) HSG.out HM.out.1 HM.out.2.1 HM.out.2.2 HX.out)
      unfold itemV at HAP
      simp only at HAP
      clear hat hbr
      go_upto_region 6 with fail
      rw [← hw5]
      clear hw5 c0 c1 c2 c3 c4 c5 c6 c7 c8 c9
      obtain ⟨q1, q2⟩ := (HE0.out.below HB5.out).cells
      obtain ⟨q3, q4⟩ := HI.out.cells
      have l1 := (HE0.out.below HB5.out).lt
      have l2 := HI.out.lt
      by_cases h0 : r.2 = 0
      · have H0 := Lib.hid h0
        have hne : (r.2 != 0) = false := by simpa using h0
        clear h0
        go_region_with (go_at_call 35; refine (HAP.out _ ((HB5.out).drew)).mono ?_; rintro e w6 ⟨rfl, hR6, hC6⟩)
        all_goals
          have HR6 := Lib.hid hR6
          have HE6 := Lib.hid ((HE0.out.below (HB5.out).drew).ch hC6 (fun hn => hn HGB.out.2))
          have HT6 := Lib.hid ((HT0.out.below (HB5.out).drew).ch hC6 (fun hn => hn HGB.out.1))
          have HC6 := Lib.hid ((Ch.of_below (fun k => ¬ G0 k) (HB5.out).drew).trans hC6)
          clear hR6 hC6
          go_wp2_with fail
          go_roundw
          case rel => exact .inr ⟨rfl, H0.out, HR6.out, HE6.out, HT6.out, HC6.out⟩
          case measure => simp [intOf]
      · have H0 := Lib.hid h0
        have hne : (r.2 != 0) = true := by simpa using h0
        clear h0
        go_region_with (go_at_call 35; refine (HAP.out _ ((HB5.out).drew)).mono ?_; rintro e w6 ⟨rfl, hR6, hC6⟩)
        all_goals
          have HR6 := Lib.hid hR6
          have HE6 := Lib.hid ((HE0.out.below (HB5.out).drew).ch hC6 (fun hn => hn HGB.out.2))
          have HC6 := Lib.hid ((Ch.of_below (fun k => ¬ G0 k) (HB5.out).drew).trans hC6)
          clear hR6 hC6
          go_wp2_with fail
          go_ret
          try simp only [if_neg H0.out]
          exact ⟨rfl, ⟨HR6.out.less HG0.out HGO.out.1, HE6.out, HGO.out.2, HNW.out.1⟩, (Ch.of_below _ HB0.out).step HC6.out (fun k hk e => .inl fun hg => e (HG0.out k hg))⟩
    · have HRr := Lib.hid hR
      have HEr := Lib.hid hE
      have HCr := Lib.hid hC
      have H0 := Lib.hid h0
      obtain ⟨q1, q2⟩ := hE.cells
      obtain ⟨q3, q4⟩ := hT.cells
      have l1 := hE.lt
      have l2 := hT.lt
      clear hR hE hT hC h0
      go_wp2_with fail
      go_ret
      try simp only [if_pos H0.out]
      have hcs : Ch (fun k => k = eb) wr _ := ((Ch.refl (fun k => k = eb) wr).set (p := ⟨eb, 1, none⟩) (.inr rfl) (.int .i64 a1)).set (p := ⟨eb, 2, none⟩) (.inr rfl) (.int .i64 a2)
      have hch : Ch (fun k => ¬ G k ∨ k = eb) w1 _ := ((Ch.of_below _ HB0.out).step HCr.out (fun k hk e => .inl fun hg => e (HG0.out k hg))).step hcs (fun k hk e => .inr e)
      refine ⟨rfl, ⟨⟨(HRr.out.ix.ch hcs (fun k e => by subst e; exact HGB.out.2)).mono (fun k hk => .inl (HG0.out k hk)), HRr.out.good, HGO.out.1, ?_⟩, (HEr.out.set 1 (.int .i64 a1)).set 2 (.int .i64 a2), HGO.out.2, HNW.out.1⟩, hch⟩
      exact Ch.below ((Ch.of_below (fun _ => False) HRr.out.ch).step hcs (fun k hk e => by have := HNW.out.1; omega))
end Go.Proofs.Ytpdibjaeopcimaa
