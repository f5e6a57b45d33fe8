/- book's laws: alive. -/
import Derived.Test.YtpdibjaeopcimaaKl
set_option linter.unusedVariables false
set_option linter.unusedSimpArgs false
namespace Go.Proofs.Ytpdibjaeopcimaa
open Go.RowKit

theorem ERun.grow {w : World} {G : Nat → Prop} {w1 w2 : World} {e x : Nat} {t n : Int} {st : XSt} (h : ERun w G w1 e x t n st) (hb : Below w1.heap.size w1 w2) :
    ∃ G', ERun w G' w2 e x t n st ∧ (∀ k, G k → G' k) ∧ (∀ k, w1.heap.size ≤ k → k < w2.heap.size → G' k) := h.ch (Ch.of_below (fun _ => False) hb) (fun _ => False.elim)
def dX : ByteArray := ⟨#[120]⟩
def bR : Rc := ⟨(3, 0), [2049, 2052], dX⟩
def bI : It := ⟨1, (1, 0), bR, 0, (0, 0), (0, 0)⟩
def bS : XSt := ⟨[⟨(1, 0), bR⟩], (1, 0), [], 1⟩
theorem b_make : makeD 2 (3, 0) [3] dX = some bR := by rfl
theorem b_open : openD bR = some (2, [3]) := by rfl
theorem b_apply : applyX xst0 bI = (bS, 0) := by rfl
theorem b_next : nextE bS (1 + 1024 * 2 + 3) (1, 0) = (some ⟨(1, 0), bR⟩, 0) := by rfl
theorem b_none : nextE bS (1 + 1024 * 1 + 3) (1, 0) = (none, 190) := by rfl
theorem one_row {w w' : World} {n : Nat} {i : It} {tv : Value} (h : Blk w' w.heap.size (itemC i tv) 41) (hn : n ≤ w.heap.size) : VRow (fun k => n ≤ k ∧ k < w'.heap.size) 10 it10O w' (.slice (some ⟨w.heap.size, 0, none⟩) 1 1) [(i, tv)] := by
  refine ⟨_, 1, rfl, Nat.le_refl _, by unfold maxLen; omega, fun j u hu => ⟨w.heap.size, 0, rfl, h.lt, ⟨hn, h.lt⟩, fun k v hv => ?_⟩⟩
  obtain ⟨rfl, rfl⟩ : j = 0 ∧ u = (i, tv) := by
    cases j with
    | zero => simp at hu; exact ⟨rfl, hu.symm⟩
    | succ j => simp at hu
  rw [show 0 + (0 * 10 + k) = k by omega, h.cell k]
  have : (itemC i tv)[k]? = (it10O (i, tv))[k]? := by
    show (it10O (i, tv)).toArray[k]? = _
    simp
  rw [this]
  exact hv
theorem one_int {w : World} {b : Nat} {n : Int} (h : Blk w b #[.int .i64 n] 3) : VRow (fun k => k < w.heap.size) 1 intO w (.slice (some ⟨b, 0, none⟩) 1 1) [n] := by
  refine ⟨_, 1, rfl, Nat.le_refl _, by unfold maxLen; omega, fun i u hu => ⟨b, 0, rfl, h.lt, h.lt, fun j v hv => ?_⟩⟩
  obtain ⟨rfl, rfl⟩ : i = 0 ∧ u = n := by
    cases i with
    | zero => simp at hu; exact ⟨rfl, hu.symm⟩
    | succ i => simp at hu
  obtain ⟨rfl, rfl⟩ : j = 0 ∧ v = .int .i64 u := by
    cases j with
    | zero => simp [intO] at hv; exact ⟨rfl, hv.symm⟩
    | succ j => simp [intO] at hv
  simpa using h.cell 0
attribute [local go_sem high] eqId eqSeq
set_option maxRecDepth 100000 in
set_option maxHeartbeats 8000000 in
theorem balive_any (w : World) : Calls Try.prog 11 #[] w fun e w' => e = .returned (.bool true) ∧ Below w.heap.size w w' := by
  have HN := Lib.hid (enew_any w)
  go_enter Try.func11, Try.ntmps11
  go_wp2_with fail
  refine HN.out.mono ?_
  rintro e w1 ⟨eb, x, G, rfl, hR⟩
  have HR1 := Lib.hid hR
  have HM := Lib.hid (mine_any 3 w1 (by decide) (by decide))
  clear HN hR
  go_wp2_with fail
  refine HM.out.mono ?_
  rintro e w2 ⟨rfl, hs, hb2⟩
  have HS2 := Lib.hid hs
  have hb3 := below1 w2 (.cells #[.int .i64 3] 3)
  have HB3 := Lib.hid (hb2.trans (hb3.mono hb2.size))
  have HS3 := Lib.hid (Blk.below hs hb3)
  have hl := Blk.new w2 #[.int .i64 3] 3
  have hv := one_int hl
  have HMK := make_any 2 (3, 0) [3] _ dX _ hv (by decide)
  rw [b_make] at HMK
  unfold plV dX at HMK
  obtain ⟨w3, hw3⟩ : ∃ w3, w3 = w2.alloc (.cells #[.int .i64 3] 3) := ⟨_, rfl⟩
  rw [← hw3] at HMK HB3 HS3
  have HMK := Lib.hid HMK
  clear hs hb2 hb3 hl hv HM
  go_wp2_with fail
  rw [← hw3]
  clear hw3
  refine HMK.out.mono ?_
  rintro e w4 ⟨tv, rfl, hv4, hb4⟩
  obtain ⟨ta, tcap, rfl, _, _⟩ := hv4.slice
  unfold recV
  simp only [Option.getD_some, Option.isSome_some, if_true] at hv4 ⊢
  unfold bR dX at hv4 ⊢
  simp only at hv4 ⊢
  have HB4 := Lib.hid (HB3.out.trans (hb4.mono HB3.out.size))
  have HS4 := Lib.hid (Blk.below HS3.out hb4)
  have HV4 := Lib.hid (hv4.mono (S' := fun k => w1.heap.size ≤ k) (fun k _ hk => Nat.le_trans HB3.out.size hk))
  clear hv4 hb4 HMK
  rw [show [(2049 : Int), 2052].length = 2 from rfl] at HV4 ⊢
  have hb5 := below1 w4 (.cells #[.int .i64 3, .int .i64 0, .slice ta 2 tcap, .string ⟨#[120]⟩] 26)
  have hv5 := HV4.out.below hb5
  have HOP := open_any bR (.slice ta 2 tcap) _ (hv5.mono fun k hk _ => hk) (by decide)
  rw [b_open] at HOP
  unfold recV bR dX at HOP
  simp only at HOP
  have B5 := Blk.new w4 #[.int .i64 3, .int .i64 0, .slice ta 2 tcap, .string ⟨#[120]⟩] 26
  obtain ⟨w5, hw5⟩ : ∃ w5, w5 = w4.alloc (.cells #[.int .i64 3, .int .i64 0, .slice ta 2 tcap, .string ⟨#[120]⟩] 26) := ⟨_, rfl⟩
  have HB5 := HB4.out.trans (hb5.mono HB4.out.size)
  have HS5 := Blk.below HS4.out hb5
  rw [← hw5] at HB5 HS5 HOP hv5 B5
  have HB5 := Lib.hid HB5
  have HS5 := Lib.hid HS5
  have HV5 := Lib.hid hv5
  have HOP := Lib.hid HOP
  have HR5 := Lib.hid B5
  clear hb5 hv5 B5
  go_wp2_with fail
  rw [← hw5]
  clear hw5
  refine HOP.out.mono ?_
  rintro e w6 ⟨tv6, rfl, hv6, hb6⟩
  obtain ⟨ta6, tcap6, rfl, _, _⟩ := hv6.slice
  simp only [Option.getD_some, Option.isSome_some] at hv6 ⊢
  rw [show [(3 : Int)].length = 1 from rfl] at hv6 ⊢
  have HB6 := Lib.hid (HB5.out.trans (hb6.mono HB5.out.size))
  have HS6 := Lib.hid (Blk.below HS5.out hb6)
  have HV6 := Lib.hid (HV5.out.below hb6)
  have HW6 := Lib.hid hv6
  have HR6 := Lib.hid (HR5.out.below hb6)
  obtain ⟨q1, q2⟩ := HR6.out.cells
  have l1 := HR6.out.lt
  -- the item's slice
  have hb7 := below1 w6 (.cells #[.int .i64 1, .int .i64 1, .int .i64 0, .int .i64 3, .int .i64 0, .slice ta 2 tcap, .string ⟨#[120]⟩, .int .i64 0, .int .i64 0, .int .i64 0] 41)
  have B7 := Blk.new w6 #[.int .i64 1, .int .i64 1, .int .i64 0, .int .i64 3, .int .i64 0, .slice ta 2 tcap, .string ⟨#[120]⟩, .int .i64 0, .int .i64 0, .int .i64 0] 41
  have HB7 := HB6.out.trans (hb7.mono HB6.out.size)
  have HS7 := Blk.below HS6.out hb7
  have hv7 := HV6.out.below hb7
  have hw7' := HW6.out.below hb7
  obtain ⟨w7, hw7⟩ : ∃ w7, w7 = w6.alloc (.cells #[.int .i64 1, .int .i64 1, .int .i64 0, .int .i64 3, .int .i64 0, .slice ta 2 tcap, .string ⟨#[120]⟩, .int .i64 0, .int .i64 0, .int .i64 0] 41) := ⟨_, rfl⟩
  rw [← hw7] at HB7 HS7 hv7 hw7' B7
  have hs6 := HB6.out.size
  have hit : VRow (fun k => w1.heap.size ≤ k ∧ k < w7.heap.size) 10 it10O w7 (.slice (some ⟨w6.heap.size, 0, none⟩) 1 1) [(bI, .slice ta 2 tcap)] := one_row B7 hs6
  obtain ⟨G7, hR7, hG7, hn7⟩ := HR1.out.grow HB7
  have HAP := eapply_any (S := fun k => w1.heap.size ≤ k ∧ k < w7.heap.size) hR7 1 1 (by decide) (by decide) bI (.slice ta 2 tcap) _ hit (hv7.mono fun k h1 h2 => ⟨h2, h1⟩) (fun k hk => ⟨hn7 k hk.1 hk.2, by have := HR1.out.eng.lt; omega⟩) (by decide) (by decide) (by decide) b_apply
  simp only [if_true] at HAP
  have HAP := Lib.hid HAP
  have HG7 := Lib.hid (And.intro (hn7 w1.heap.size (Nat.le_refl _) HS7.lt) (show w1.heap.size ≠ eb by have := HR1.out.eng.lt; omega))
  have HN7 := Lib.hid hn7
  have HB7 := Lib.hid HB7
  have HS7 := Lib.hid HS7
  have HV7 := Lib.hid hv7
  have HW7 := Lib.hid hw7'
  have HLE := Lib.hid HR1.out.eng.lt
  clear hv6 hb6 hb7 B7 hv7 hw7' hs6 hit hR7 hG7 hn7 HOP
  go_wp2_with fail
  rw [← hw7]
  clear hw7 q1 q2 l1
  refine HAP.out.mono ?_
  rintro e w8 ⟨rfl, hR8, hc8⟩
  have HS8 := Lib.hid (Blk.ch HS7.out hc8 (fun e => e.elim (fun h => h HG7.out.1) HG7.out.2))
  have hw8 := (HW7.out.mono (S' := fun k => w1.heap.size < k ∧ k < w7.heap.size) (fun k hk h => ⟨Nat.lt_of_lt_of_le (Blk.lt HS5.out) h, hk⟩)).ch hc8 (fun k hk e => e.elim (fun h => h (HN7.out k (Nat.le_of_lt hk.1) hk.2)) (fun h => by have := HLE.out; omega))
  have HW8 := Lib.hid hw8
  have HR8 := Lib.hid hR8
  have HWS := Lib.hid HR1.out.run.ch.size
  have hA8 : Asks w G7 w8 eb x w1.heap.size 1 1 3 0 0 0 bS := ⟨hR8, HS8.out, HG7.out.1, HG7.out.2, HWS.out, by decide, by decide⟩
  have HNX := enext_any 2 3 (1, 0) hA8 (by decide) (by decide)
  rw [b_next] at HNX
  unfold plV at HNX
  have HNX := Lib.hid HNX
  have HB8 := Lib.hid (show w7.heap.size ≤ w8.heap.size from hc8.size)
  clear hR8 hc8 hw8 hA8 HAP
  go_wp2_with fail
  refine HNX.out.mono ?_
  rintro e w9 ⟨tv9, rfl, hv9, hA9⟩
  obtain ⟨ta9, tcap9, rfl, _, _⟩ := hv9.slice
  unfold recV bR dX
  simp only [Option.getD_some]
  rw [show [(2049 : Int), 2052].length = 2 from rfl]
  have hb10 := below2 w9 (.cells #[.int .i64 3, .int .i64 0, .slice ta9 2 tcap9, .string ⟨#[120]⟩] 26) (.cells #[.int .i64 1, .int .i64 0] 39)
  obtain ⟨G9, hR9, hG9, _⟩ := HR8.out.ch hA9.ch (fun k hk => by subst hk; exact ⟨HG7.out.1, HG7.out.2, HWS.out⟩)
  have hS9 := hA9.ses
  have hw9 := HW8.out.ch hA9.ch (fun k hk e => by omega)
  have B10 := (Blk.new w9 #[.int .i64 3, .int .i64 0, .slice ta9 2 tcap9, .string ⟨#[120]⟩] 26).alloc (.cells #[.int .i64 1, .int .i64 0] 39)
  have B11 := Blk.new (w9.alloc (.cells #[.int .i64 3, .int .i64 0, .slice ta9 2 tcap9, .string ⟨#[120]⟩] 26)) #[.int .i64 1, .int .i64 0] 39
  rw [World.size_alloc] at B11
  have hR10 := hR9.below hb10
  have hS10 := Blk.below hS9 hb10
  have hw10' := hw9.below hb10
  obtain ⟨w10, hw10⟩ : ∃ w10, w10 = (w9.alloc (.cells #[.int .i64 3, .int .i64 0, .slice ta9 2 tcap9, .string ⟨#[120]⟩] 26)).alloc (.cells #[.int .i64 1, .int .i64 0] 39) := ⟨_, rfl⟩
  rw [← hw10] at B10 B11 hR10 hS10 hw10'
  have hA10 : Asks w G9 w10 eb x w1.heap.size 1 1 3 0 1 1 bS := ⟨hR10, hS10, hG9 _ HG7.out.1, HG7.out.2, HWS.out, by decide, by decide⟩
  have HNY := enext_any 1 3 (1, 0) hA10 (by decide) (by decide)
  rw [b_none] at HNY
  unfold plV at HNY
  have HNY := Lib.hid HNY
  have H10 := Lib.hid B10
  have H11 := Lib.hid B11
  have HW10 := Lib.hid hw10'
  have HR10 := Lib.hid hR10
  have HG9 := Lib.hid (hG9 _ HG7.out.1)
  have HSL := Lib.hid (show w1.heap.size < w9.heap.size from Blk.lt hS9)
  clear hv9 hA9 hb10 hR9 hG9 hS9 hw9 B10 B11 hR10 hS10 hw10' hA10 HNX
  go_wp2_with fail
  rw [← hw10]
  clear hw10
  refine HNY.out.mono ?_
  rintro e w11 ⟨tv11, rfl, hv11, hA11⟩
  obtain ⟨ta11, tcap11, rfl, _, _⟩ := hv11.slice
  unfold recV rw0 rc0
  simp only [Option.getD_none]
  have hb12 := below2 w11 (.cells #[.int .i64 0, .int .i64 0, .slice ta11 0 tcap11, .string ⟨#[]⟩] 26) (.cells #[.int .i64 0, .int .i64 0] 39)
  have hw11 := HW10.out.ch hA11.ch (fun k hk e => by omega)
  have h9 := H10.out.ch hA11.ch (fun e => by have := HSL.out; omega)
  have h10 := H11.out.ch hA11.ch (fun e => by have := HSL.out; omega)
  obtain ⟨G11, hR11, _, _⟩ := HR10.out.ch hA11.ch (fun k hk => by subst hk; exact ⟨HG9.out, HG7.out.2, HWS.out⟩)
  have HBW := Lib.hid hR11.run.ch
  rw [show ([] : List Int).length = 0 from rfl]
  obtain ⟨q1, q2⟩ := h9.cells
  obtain ⟨q3, q4⟩ := h10.cells
  have l1 := h9.lt
  have l2 := h10.lt
  have H9 := Lib.hid h9
  have H10' := Lib.hid h10
  have HW11 := Lib.hid hw11
  have HTG := Lib.hid (fun w => tag_any 2 3 w)
  clear hv11 hA11 hw11 h9 h10 hR11 HNY
  go_wp2_with fail
  refine (HTG.out _).mono ?_
  rintro e w12 ⟨rfl, hw⟩
  rw [hw, show tagD 2 3 = (2052, true) from rfl]
  clear hw
  have hb13 := hb12.trans ((below1 ((w11.alloc (.cells #[.int .i64 0, .int .i64 0, .slice ta11 0 tcap11, .string ⟨#[]⟩] 26)).alloc (.cells #[.int .i64 0, .int .i64 0] 39)) (.cells #[.int .i64 3] 3)).mono hb12.size)
  have B13 := Blk.new ((w11.alloc (.cells #[.int .i64 0, .int .i64 0, .slice ta11 0 tcap11, .string ⟨#[]⟩] 26)).alloc (.cells #[.int .i64 0, .int .i64 0] 39)) #[.int .i64 3] 3
  simp only [World.size_alloc] at B13
  obtain ⟨w13, hw13⟩ : ∃ w13, w13 = ((w11.alloc (.cells #[.int .i64 0, .int .i64 0, .slice ta11 0 tcap11, .string ⟨#[]⟩] 26)).alloc (.cells #[.int .i64 0, .int .i64 0] 39)).alloc (.cells #[.int .i64 3] 3) := ⟨_, rfl⟩
  rw [← hw13] at hb13 B13
  have HEQ := requal_any [3] [3] _ _ w13 (HW11.out.below hb13) (one_int B13) (by decide)
  rw [show decide ([(3 : Int)] = [3]) = true from rfl] at HEQ
  have HEQ := Lib.hid HEQ
  have HB13 := Lib.hid hb13
  have HBX := Lib.hid (HBW.out.trans (hb13.mono HBW.out.size))
  clear hb12 hb13 B13 q1 q2 q3 q4 l1 l2
  go_wp2_with fail
  rw [← hw13]
  clear hw13
  refine HEQ.out.mono ?_
  rintro e w14 ⟨rfl, hb14⟩
  obtain ⟨q1, q2⟩ := ((H9.out.below HB13.out).below hb14).cells
  obtain ⟨q3, q4⟩ := ((H10'.out.below HB13.out).below hb14).cells
  have l1 := ((H9.out.below HB13.out).below hb14).lt
  have l2 := ((H10'.out.below HB13.out).below hb14).lt
  have HBY := Lib.hid (HBX.out.trans (hb14.mono HBX.out.size))
  clear hb14
  go_wp2_with fail
  go_ret
  exact ⟨rfl, HBY.out⟩
end Go.Proofs.Ytpdibjaeopcimaa
