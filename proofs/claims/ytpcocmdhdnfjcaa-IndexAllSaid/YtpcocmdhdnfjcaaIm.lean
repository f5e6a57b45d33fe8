/- index's laws: alive. -/
import Derived.Test.YtpcocmdhdnfjcaaIl
set_option linter.unusedVariables false
set_option linter.unusedSimpArgs false
namespace Go.Proofs.Ytpcocmdhdnfjcaa
open Go.RowKit

theorem Ix.grow {G : Nat → Prop} {w w1 : World} {x : Nat} {st : XSt} (h : Ix G w x st) (hb : Below w.heap.size w w1) : ∃ G', Ix G' w1 x st ∧ (∀ k, G k → G' k) ∧ (∀ k, w.heap.size ≤ k → k < w1.heap.size → G' k) :=
  ⟨_, h.below hb, fun _ e => .inl e, fun _ h1 h2 => .inr ⟨h1, h2⟩⟩
/-- What a call that began at w did so far: it holds an index. -/
structure Run (w : World) (G : Nat → Prop) (w1 : World) (x : Nat) (st : XSt) : Prop where
  ix : Ix G w1 x st
  good : GoodX st
  old : ∀ k, k < w.heap.size → G k
  ch : Below w.heap.size w w1
theorem Run.grow {w : World} {G : Nat → Prop} {w1 w2 : World} {x : Nat} {st : XSt} (h : Run w G w1 x st) (hb : Below w1.heap.size w1 w2) : ∃ G', Run w G' w2 x st ∧ (∀ k, G k → G' k) ∧ (∀ k, w1.heap.size ≤ k → k < w2.heap.size → G' k) := by
  obtain ⟨G', h1, h2, h3⟩ := h.ix.grow hb
  exact ⟨G', ⟨h1, h.good, fun k hk => h2 k (h.old k hk), h.ch.trans (hb.mono h.ch.size)⟩, h2, h3⟩
theorem Run.below {w : World} {G : Nat → Prop} {w1 w2 : World} {x : Nat} {st : XSt} (h : Run w G w1 x st) (hb : Below w1.heap.size w1 w2) : Run w G w2 x st := ⟨h.ix.below' hb, h.good, h.old, h.ch.trans (hb.mono h.ch.size)⟩
theorem Run.lt {w : World} {G : Nat → Prop} {w1 : World} {x : Nat} {st : XSt} (h : Run w G w1 x st) {k : Nat} (hk : G k) : k < w1.heap.size := by
  obtain ⟨c, rv, mt, mi, mm, rws, _, h2⟩ := h.ix
  exact (h2 k hk).1
theorem Run.apply {w : World} {G S : Nat → Prop} {w1 : World} {x : Nat} {st : XSt} (h : Run w G w1 x st) (i : It) (tv : Value) (htv : VRow S 1 intO w1 tv i.r.tags) (hSG : ∀ k, S k → G k) (hm : st.rows.length ≤ 4000000) (ha : st.applied ≤ 4000000) (htl : i.r.tags.length ≤ 140737488351232) {r : XSt × Int} (hr : applyX st i = r) :
    Calls Try.prog 12 #[.pointer (some ⟨x, 0, none⟩), itemV i tv] w1 fun e w' => e = .returned (.int .i64 r.2) ∧ Run w G w' x r.1 ∧ Ch (fun k => ¬ G k) w1 w' := by
  subst hr
  refine (apply_any i tv w1 h.ix h.good htv hm ha hSG (fun k hk => h.lt hk) htl).mono fun e w' ⟨h1, h2, h3⟩ => ⟨h1, ⟨h2, good_apply h.good i, h.old, ?_⟩, h3⟩
  exact Ch.below ((Ch.of_below (fun _ => False) h.ch).step h3 (fun k hk e => e (h.old k hk)))
theorem Run.new {w w1 : World} {e : Ending} (h : NewXPost w e w1) : ∃ x G, e = .returned (.pointer (some ⟨x, 0, none⟩)) ∧ Run w G w1 x xst0 := by
  obtain ⟨x, rfl, h1, h2⟩ := h
  exact ⟨x, _, rfl, h1, good0, fun k hk => hk, h2⟩
/-- .. where more was done ahead of it. -/
theorem Run.from {w w0 w1 : World} {G : Nat → Prop} {x : Nat} {st : XSt} (hb : Below w.heap.size w w0) (h : Run w0 G w1 x st) : Run w G w1 x st := ⟨h.ix, h.good, fun k hk => h.old k (Nat.lt_of_lt_of_le hk hb.size), hb.trans (h.ch.mono hb.size)⟩

def dA : ByteArray := ⟨#[97]⟩
def aI0 : It := ⟨1, (0, 0), rc0, 0, (0, 0), (0, 0)⟩
def aI1 : It := ⟨1, (1, 0), ⟨(0, 0), [5], dA⟩, 0, (0, 0), (0, 0)⟩
def aI2 : It := ⟨2, (0, 0), rc0, 5, (1, 0), (0, 0)⟩
def aR : Rw := ⟨(1, 0), ⟨(0, 0), [5], dA⟩⟩
def aS1 : XSt := ⟨[aR], (1, 0), [], 1⟩
def aS2 : XSt := ⟨[aR], (1, 0), [(5, (1, 0))], 2⟩
theorem a0 : applyX xst0 aI0 = (xst0, 1) := by rfl
theorem a1 : applyX xst0 aI1 = (aS1, 0) := by rfl
theorem a2 : applyX aS1 aI2 = (aS2, 0) := by rfl
theorem n1 : nextX aS1 5 (1, 0) = some aR := by rfl
theorem n2 : nextX aS1 5 (1, 1) = none := by rfl
theorem n3 : nextX aS2 5 (0, 0) = none := by rfl
theorem n4 : nextX aS2 0 (0, 0) = some aR := by rfl
attribute [local go_sem high] eqId eqSeq
set_option maxRecDepth 100000 in
set_option maxHeartbeats 8000000 in
theorem alive_any (w : World) : Calls Try.prog 10 #[] w fun e w' => e = .returned (.bool true) ∧ Below w.heap.size w w' := by
  have HN := Lib.hid (xnew_any w)
  go_enter Try.func10, Try.ntmps10
  go_wp2_with fail
  refine HN.out.mono ?_
  intro e w1 hpost
  obtain ⟨x, G0, rfl, R1⟩ := Run.new hpost
  clear HN hpost
  obtain ⟨G1, R2, _, hn⟩ := R1.grow (below1 w1 (.cells #[.int .i64 1, .int .i64 0] 29))
  have HS2 := Lib.hid (Blk.new w1 #[.int .i64 1, .int .i64 0] 29)
  have HG1 := Lib.hid (hn w1.heap.size (Nat.le_refl _) (by simp))
  have HA := Lib.hid (R2.apply aI0 (.slice none 0 0) (VRow.nil (fun _ => False) _) (fun k e => e.elim) (by decide) (by decide) (by decide) a0)
  unfold itemV aI0 rc0 at HA
  simp only at HA
  clear R1 hn R2
  go_wp2_with fail
  refine HA.out.mono ?_
  rintro e w2 ⟨rfl, R3, c3⟩
  have HS3 := Lib.hid (HS2.out.ch c3 (fun h => h HG1.out))
  obtain ⟨q1, q2⟩ := HS3.out.cells
  have l3 := HS3.out.lt
  obtain ⟨G2, R4, hG2, hn⟩ := R3.grow (below1 w2 (.cells #[.int .i64 5] 3))
  have HV := (show VRow (fun k => k = w2.heap.size) 1 intO (w2.alloc (.cells #[.int .i64 5] 3)) (.slice (some ⟨w2.heap.size, 0, none⟩) 1 1) [5] from ⟨_, 1, rfl, by decide, by decide, fun i z hz => ⟨w2.heap.size, 0, rfl, by simp, rfl, fun j u hu => by
    have hi : i = 0 := by
      have := (List.getElem?_eq_some_iff.1 hz).1
      simp at this
      omega
    subst hi
    simp at hz
    subst hz
    rw [(Blk.new w2 #[.int .i64 5] 3).cell]
    simpa [intO] using hu⟩⟩)
  have HA := Lib.hid (R4.apply aI1 (.slice (some ⟨w2.heap.size, 0, none⟩) 1 1) HV (fun k e => by rw [e]; exact hn _ (Nat.le_refl _) (by simp)) (by decide) (by decide) (by decide) a1)
  unfold itemV aI1 dA at HA
  simp only at HA
  have HS4 := Lib.hid (HS3.out.alloc (.cells #[.int .i64 5] 3))
  have HG2 := Lib.hid (hG2 _ HG1.out)
  clear R3 c3 HS2 HV hn hG2 R4
  go_wp2_with fail
  refine HA.out.mono ?_
  rintro e w3 ⟨rfl, R5, c5⟩
  have HS5 := Lib.hid (HS4.out.ch c5 (fun h => h HG2.out))
  clear q1 q2 HS3 HS4
  obtain ⟨q1, q2⟩ := HS5.out.cells
  have l5 := HS5.out.lt
  have HN1 := xnext_any 5 (1, 0) w3 R5.ix R5.good (by decide)
  rw [n1] at HN1
  have HN1 := Lib.hid HN1
  clear c5
  unfold plV at HN1
  simp only at HN1
  go_wp2_with fail
  refine HN1.out.mono ?_
  rintro e w4 ⟨tv, rfl, hv, hb4⟩
  obtain ⟨ta, tcap, rfl, _, _⟩ := hv.slice
  unfold recV plV aR dA
  simp only [Option.getD_some, Option.isSome_some]
  have R6 := R5.below hb4
  have HS6 := HS5.out.below hb4
  have hlen : aR.r.tags.length = 1 := rfl
  have HR7 := Lib.hid ((Blk.new w4 #[.int .i64 0, .int .i64 0, .slice ta 1 tcap, .string ⟨#[97]⟩] 34).alloc (.cells #[.int .i64 1, .int .i64 0] 29))
  have HT7 := Blk.new (w4.alloc (.cells #[.int .i64 0, .int .i64 0, .slice ta 1 tcap, .string ⟨#[97]⟩] 34)) #[.int .i64 1, .int .i64 0] 29
  rw [show (w4.alloc (.cells #[.int .i64 0, .int .i64 0, .slice ta 1 tcap, .string ⟨#[97]⟩] 34)).heap.size = w4.heap.size + 1 by simp] at HT7
  have HT7 := Lib.hid HT7
  obtain ⟨G3, R7, hG3, hn3⟩ := R6.grow (below2 w4 (.cells #[.int .i64 0, .int .i64 0, .slice ta 1 tcap, .string ⟨#[97]⟩] 34) (.cells #[.int .i64 1, .int .i64 0] 29))
  have HS7 := Lib.hid (HS6.below (below2 w4 (.cells #[.int .i64 0, .int .i64 0, .slice ta 1 tcap, .string ⟨#[97]⟩] 34) (.cells #[.int .i64 1, .int .i64 0] 29)))
  have HGS3 := Lib.hid (hG3 _ HG2.out)
  have HGR := Lib.hid (hn3 w4.heap.size (Nat.le_refl _) (by simp; omega))
  have HGT := Lib.hid (hn3 (w4.heap.size + 1) (by omega) (by simp))
  have HN2 := xnext_any 5 (1, 1) _ R7.ix R7.good (by decide)
  rw [n2] at HN2
  unfold plV at HN2
  simp only at HN2
  have HN2 := Lib.hid HN2
  have HR7b := Lib.hid R7
  clear q1 q2 hv hb4 HS5 HS6 R6 R5 hG3 hn3 HN1 HA
  go_wp2_with fail
  obtain ⟨w7, hw7⟩ : ∃ w7, w7 = (w4.alloc (.cells #[.int .i64 0, .int .i64 0, .slice ta 1 tcap, .string ⟨#[97]⟩] 34)).alloc (.cells #[.int .i64 1, .int .i64 0] 29) := ⟨_, rfl⟩
  rw [← hw7] at HN2 HR7 HT7 R7 HR7b HS7 ⊢
  clear hw7
  refine HN2.out.mono ?_
  rintro e w8 ⟨tv8, rfl, hv8, hb8⟩
  obtain ⟨ta8, tcap8, rfl, _, _⟩ := hv8.slice
  have hb9 := hb8.trans ((below2 w8 (.cells #[.int .i64 0, .int .i64 0, .slice ta8 0 tcap8, .string ⟨#[]⟩] 34) (.cells #[.int .i64 0, .int .i64 0] 29)).mono hb8.size)
  obtain ⟨G4, R9, hG4, _⟩ := HR7b.out.grow hb9
  have HR9 := Lib.hid (HR7.out.below hb9)
  have HT9 := Lib.hid (HT7.out.below hb9)
  have HS9 := Lib.hid (HS7.out.below hb9)
  have HGS4 := Lib.hid (hG4 _ HGS3.out)
  have HGR4 := Lib.hid (hG4 _ HGR.out)
  have HGT4 := Lib.hid (hG4 _ HGT.out)
  have HA := Lib.hid (R9.apply aI2 (.slice none 0 0) (VRow.nil (fun _ => False) _) (fun k e => e.elim) (by decide) (by decide) (by decide) a2)
  unfold itemV aI2 rc0 at HA
  simp only at HA
  obtain ⟨q1, q2⟩ := (HS7.out.below hb8).cells
  have l9 := (HS7.out.below hb8).lt
  unfold recV plV rw0 rc0
  simp only [Option.getD_none, Option.isSome_none]
  clear hv8 hb8 hb9 hG4 HN2 R7 HR7b HR7 HT7 HS7 R9
  go_wp2_with fail
  refine HA.out.mono ?_
  rintro e w10 ⟨rfl, R10, c10⟩
  have HR10 := Lib.hid (HR9.out.ch c10 (fun h => h HGR4.out))
  have HT10 := Lib.hid (HT9.out.ch c10 (fun h => h HGT4.out))
  have HS10 := Lib.hid (HS9.out.ch c10 (fun h => h HGS4.out))
  have HQ := Lib.hid R10
  have HN3 := xnext_any 5 (0, 0) w10 R10.ix R10.good (by decide)
  rw [n3] at HN3
  unfold plV at HN3
  simp only at HN3
  have HN3 := Lib.hid HN3
  clear q1 q2 c10 R10 HA HR9 HT9 HS9
  go_wp2_with fail
  refine HN3.out.mono ?_
  rintro e w11 ⟨tv11, rfl, hv11, hb11⟩
  obtain ⟨ta11, tcap11, rfl, _, _⟩ := hv11.slice
  have hb12 := hb11.trans ((below2 w11 (.cells #[.int .i64 0, .int .i64 0, .slice ta11 0 tcap11, .string ⟨#[]⟩] 34) (.cells #[.int .i64 0, .int .i64 0] 29)).mono hb11.size)
  have R12 := HQ.out.below hb12
  have HR12 := Lib.hid (HR10.out.below hb12)
  have HT12 := Lib.hid (HT10.out.below hb12)
  have HS12 := Lib.hid (HS10.out.below hb12)
  have HN4 := xnext_any 0 (0, 0) _ R12.ix R12.good (by decide)
  rw [n4] at HN4
  unfold plV at HN4
  simp only at HN4
  have HN4 := Lib.hid HN4
  have HQ12 := Lib.hid R12
  unfold recV plV rw0 rc0
  simp only [Option.getD_none, Option.isSome_none]
  clear hv11 hb11 hb12 R12 HQ HN3 HR10 HT10 HS10
  go_wp2_with fail
  refine HN4.out.mono ?_
  rintro e w13 ⟨tv13, rfl, hv13, hb13⟩
  obtain ⟨ta13, tcap13, rfl, _, _⟩ := hv13.slice
  obtain ⟨q1, q2⟩ := (HR12.out.below hb13).cells
  obtain ⟨q3, q4⟩ := (HT12.out.below hb13).cells
  obtain ⟨q5, q6⟩ := (HS12.out.below hb13).cells
  have l1 := (HR12.out.below hb13).lt
  have l2 := (HT12.out.below hb13).lt
  have l3 := (HS12.out.below hb13).lt
  have HB := Lib.hid ((HQ12.out.below hb13).ch)
  unfold recV plV aR dA
  simp only [Option.getD_some, Option.isSome_some]
  clear hv13 hb13 HN4 HR12 HT12 HS12 HQ12
  go_wp2_with fail
  go_ret
  exact ⟨rfl, Ch.below (Ch.alloc (Ch.alloc (Ch.of_below (fun _ => False) HB.out) _) _)⟩
end Go.Proofs.Ytpcocmdhdnfjcaa
