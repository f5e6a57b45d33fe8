/- BookOnce: the walk. -/
import Derived.Test.YtpdibjaeopcimaaKMade
set_option linter.unusedVariables false
set_option linter.unusedSimpArgs false
namespace Go.Proofs.Ytpdibjaeopcimaa
open Go.RowKit

/-- The index behind k appends of one record. -/
def onceS (R : Rc) (k : Nat) : XSt := if k = 0 then xst0 else ⟨[⟨(1, 0), R⟩], (1, (k : Int) - 1), [], k⟩
def onceI (R : Rc) (k : Nat) : It := ⟨1, (1, (k : Int)), R, 0, (0, 0), (0, 0)⟩
def onceT (k : Nat) : Int := if k = 0 then 0 else 1
def onceN (k : Nat) : Int := if k = 0 then 0 else (k : Int) - 1
theorem once_apply {R : Rc} (h : rightR R = true) (k : Nat) : applyX (onceS R k) (onceI R k) = (onceS R (k + 1), 0) := by
  have hk : keepsX (onceS R k) (onceI R k) = true := by
    unfold keepsX onceI onceS
    simp only [h, beq_self_eq_true, Bool.true_and, Bool.and_true]
    by_cases h0 : k = 0
    · subst h0; rfl
    · rw [if_neg h0]
      simp [lessP]
      omega
  unfold applyX
  rw [if_pos hk]
  congr 1
  unfold incX addX onceS onceI
  by_cases h0 : k = 0
  · subst h0; rfl
  · rw [if_neg h0, if_neg (Nat.succ_ne_zero k)]
    simp
theorem once_rows {R : Rc} {k : Nat} (h : 0 < k) : (onceS R k).rows = [⟨(1, 0), R⟩] ∧ (onceS R k).tr = [] := by
  unfold onceS
  rw [if_neg (by omega)]
  exact ⟨rfl, rfl⟩
theorem once_few (R : Rc) (k : Nat) : (onceS R k).rows.length ≤ 1 ∧ (onceS R k).applied = k := by
  unfold onceS
  by_cases h0 : k = 0
  · subst h0; exact ⟨by simp [xst0], rfl⟩
  · rw [if_neg h0]; exact ⟨by simp, rfl⟩
theorem once_find {R : Rc} {k : Nat} (h : 0 < k) : findX (onceS R k) R.id = ((1, 0), true) := by
  unfold findX idsL
  rw [(once_rows h).1]
  simp [getA]
theorem once_count {R : Rc} {k : Nat} (h : 0 < k) {t : Int} (ht : hasR R t = true) : countX (onceS R k) t = [⟨(1, 0), R⟩] := by
  unfold countX tagX
  rw [(once_rows h).1]
  have hb : ∀ u a, behindX (onceS R k) u a = true := fun u a => by unfold behindX; rw [(once_rows h).2]; rfl
  simp [ht, bothX, hb]
theorem once_tail {R : Rc} {k : Nat} (h : 0 < k) {t : Int} (ht : hasR R t = true) : tailX (onceS R k) t = some ⟨(1, 0), R⟩ := by
  unfold tailX
  rw [once_count h ht]
  rfl
theorem once_next {R : Rc} {k : Nat} (h : 0 < k) {t : Int} (ht : hasR R t = true) : nextE (onceS R k) t (1, 1) = (none, 190) := by
  have hg : ∀ u a, goneX (onceS R k) u a = false := fun u a => by unfold goneX trimV; rw [(once_rows h).2]; rfl
  unfold nextE
  rw [hg, hg]
  unfold nextX
  rw [once_count h ht]
  rfl
theorem once_right (k : Nat) (h : k ≤ 40) : Sn.rightB 1 (k : Int) = true := by
  unfold Sn.rightB
  simp
  omega
theorem once_less (k : Nat) : Sn.lessB 1 (k : Int) (onceT k) (onceN k) = false := by
  unfold Sn.lessB onceT onceN
  by_cases h : k = 0
  · subst h; rfl
  · simp [h]
    omega
theorem once_ses (k : Nat) (h0 : 0 < k) (h : k ≤ 40) : Sn.readE 0 0 1 ((k : Int) - 1) = 0 ∧ Sn.readT 0 0 1 ((k : Int) - 1) = 1 ∧ Sn.readN 0 0 1 ((k : Int) - 1) = (k : Int) - 1 ∧
    Sn.readE 1 ((k : Int) - 1) 1 ((k : Int) - 1) = 0 ∧ Sn.readT 1 ((k : Int) - 1) 1 ((k : Int) - 1) = 1 ∧ Sn.readN 1 ((k : Int) - 1) 1 ((k : Int) - 1) = (k : Int) - 1 := by
  have hr : Sn.rightB 1 ((k : Int) - 1) = true := by
    unfold Sn.rightB
    simp
    omega
  have e1 : Sn.readE 0 0 1 ((k : Int) - 1) = 0 := by unfold Sn.readE; rw [hr]; simp [Sn.lessB]
  have e2 : Sn.readE 1 ((k : Int) - 1) 1 ((k : Int) - 1) = 0 := by unfold Sn.readE; rw [hr]; simp [Sn.lessB]
  refine ⟨e1, ?_, ?_, e2, ?_, ?_⟩
  · unfold Sn.readT; rw [if_pos e1]; simp [Sn.maxT, Sn.lessB]
  · unfold Sn.readN; rw [if_pos e1]; simp [Sn.maxN, Sn.lessB]
  · unfold Sn.readT; rw [if_pos e2]; simp [Sn.maxT, Sn.lessB]
  · unfold Sn.readN; rw [if_pos e2]; simp [Sn.maxN, Sn.lessB]
/-- BookOnce's loop: D: what stays. -/
def OnIn (w0 w4 : World) (D : Nat → Prop) (eb x : Nat) (R : Rc) (m : Nat) (v : Value) (wi : World) : Prop :=
  ∃ (k : Nat) (G : Nat → Prop), v = .int .i64 (k : Int) ∧ k ≤ m ∧ ERun w0 G wi eb x (onceT k) (onceN k) (onceS R k) ∧ (∀ j, D j → G j) ∧ Ch (fun j => ¬ D j) w4 wi
attribute [local go_sem high] eqId eqSeq
set_option maxRecDepth 100000 in
set_option maxHeartbeats 16000000 in
theorem once_main (b : Int) (r : Rc) (rv : Value) (many : Int) (w : World) (hr : VRow (fun k => k < w.heap.size) 1 intO w rv r.tags) :
    Calls Try.prog 3 #[.int .i64 b, recV r rv, .int .i64 many] w fun e w' => e = .returned (.bool true) ∧ Below w.heap.size w w' := by
  obtain ⟨⟨ia, ib⟩, rt, data⟩ := r
  obtain ⟨ra, rcap, rfl, _, _⟩ := hr.slice
  have hb0 := below1 w (.cells #[.int .i64 ia, .int .i64 ib, .slice ra rt.length rcap, .string data] 26)
  have B0 := Blk.new w #[.int .i64 ia, .int .i64 ib, .slice ra rt.length rcap, .string data] 26
  obtain ⟨w0, hw0⟩ : ∃ w0, w0 = w.alloc (.cells #[.int .i64 ia, .int .i64 ib, .slice ra rt.length rcap, .string data] 26) := ⟨_, rfl⟩
  rw [← hw0] at hb0 B0
  have HB0 := Lib.hid hb0
  have HR0 := Lib.hid B0
  have HN := Lib.hid (enew_any w0)
  unfold recV
  simp only
  clear hr hb0 B0
  go_enter Try.func3, Try.ntmps3
  go_wp2_with fail
  rw [← hw0]
  clear hw0
  refine HN.out.mono ?_
  rintro e w1 ⟨eb, x, G, rfl, hR⟩
  have HR1 := Lib.hid hR
  have HM := Lib.hid (mine_any 0 w1 (by decide) (by decide))
  clear HN hR
  go_wp2_with fail
  refine HM.out.mono ?_
  rintro e w2 ⟨rfl, hs, hb2⟩
  have HS2 := Lib.hid hs
  have HB2 := Lib.hid hb2
  have HMK := make_any b (ia, ib) [] (.slice none 0 0) data w2 (VRow.nil _ _) (by decide)
  unfold plV at HMK
  have HMK := Lib.hid HMK
  have hk2 := HR0.out.below (HR1.out.run.ch.trans (hb2.mono HR1.out.run.ch.size))
  obtain ⟨q1, q2⟩ := hk2.cells
  have l1 := hk2.lt
  clear hs hb2 HM hk2
  go_wp2_with fail
  refine HMK.out.mono ?_
  rintro e w3 ⟨xv, rfl, hx, hb3⟩
  obtain ⟨xa, xcap, rfl, _, _⟩ := hx.slice
  obtain ⟨o, ho⟩ : ∃ o, makeD b (ia, ib) [] data = o := ⟨_, rfl⟩
  rw [ho] at hx ⊢
  have HO := Lib.hid ho
  have HX3 := Lib.hid hx
  have HB23 := Lib.hid hb3
  have HB3 := Lib.hid (HB2.out.trans (hb3.mono HB2.out.size))
  clear hx hb3 ho HMK q1 q2 l1
  have HEND := Lib.hid (fun (w4 : World) (h : Below w1.heap.size w1 w4) => show Below w.heap.size w w4 from HB0.out.trans ((HR1.out.run.ch.trans (h.mono HR1.out.run.ch.size)).mono HB0.out.size))
  cases o with
  | none =>
    unfold recV rc0
    simp only [Option.getD_none, Option.isSome_none, Bool.false_eq_true, if_false]
    go_wp2_with fail
    refine (balive_any _).mono ?_
    rintro e w5 ⟨rfl, hb5⟩
    have HB5 := Lib.hid (HEND.out _ (HB3.out.trans (((below1 w3 _).trans (hb5.mono (by simp))).mono HB3.out.size)))
    clear hb5
    go_wp2_with fail
    go_ret
    exact ⟨rfl, HB5.out⟩
  | some R =>
    obtain ⟨hb, _, _, hrr, hid, hdt, htg⟩ := make_some HO.out
    have HIB := Lib.hid hb
    have HHAS := Lib.hid (made_own HO.out).2
    obtain ⟨⟨ja, jb⟩, jt, jd⟩ := R
    simp only [Prod.mk.injEq] at hid hdt htg
    obtain ⟨rfl, rfl⟩ := hid
    subst hdt
    have HJL := Lib.hid (show jt.length = 1 by rw [htg]; rfl)
    have HRR := Lib.hid hrr
    clear hb hrr htg
    unfold recV
    simp only [Option.getD_some, Option.isSome_some, if_true] at HX3 ⊢
    rw [HJL.out]
    by_cases h1 : many < 1
    · have t1 : decide (many < 1) = true := decide_eq_true h1
      clear h1
      go_wp2_with fail
      refine (balive_any _).mono ?_
      rintro e w5 ⟨rfl, hb5⟩
      have HB5 := Lib.hid (HEND.out _ (HB3.out.trans (((below1 w3 _).trans (hb5.mono (by simp))).mono HB3.out.size)))
      clear hb5
      go_wp2_with fail
      go_ret
      exact ⟨rfl, HB5.out⟩
    by_cases h2 : 40 < many
    · have t1 : decide (many < 1) = false := decide_eq_false h1
      have t2 : decide (40 < many) = true := decide_eq_true h2
      clear h1 h2
      go_wp2_with fail
      refine (balive_any _).mono ?_
      rintro e w5 ⟨rfl, hb5⟩
      have HB5 := Lib.hid (HEND.out _ (HB3.out.trans (((below1 w3 _).trans (hb5.mono (by simp))).mono HB3.out.size)))
      clear hb5
      go_wp2_with fail
      go_ret
      exact ⟨rfl, HB5.out⟩
    have t1 : decide (many < 1) = false := decide_eq_false h1
    have t2 : decide (40 < many) = false := decide_eq_false h2
    obtain ⟨m, hm⟩ : ∃ m : Nat, many = (m : Int) := ⟨many.toNat, by omega⟩
    subst hm
    have HM := Lib.hid (show 0 < m ∧ m ≤ 40 by omega)
    have hb4 := below1 w3 (.cells #[.int .i64 ja, .int .i64 jb, .slice xa 1 xcap, .string jd] 26)
    have B4 := Blk.new w3 #[.int .i64 ja, .int .i64 jb, .slice xa 1 xcap, .string jd] 26
    have hb24 := HB3.out.trans (hb4.mono HB3.out.size)
    have hx4 := HX3.out.below hb4
    have hr4 := HR1.out.below hb24
    have hs4 : Sn.Ses _ w1.heap.size 0 0 0 0 := Blk.below HS2.out (HB23.out.trans (hb4.mono HB23.out.size))
    have hq4 := HR0.out.below (HR1.out.run.ch.trans (hb24.mono HR1.out.run.ch.size))
    obtain ⟨w4, hw4⟩ : ∃ w4, w4 = w3.alloc (.cells #[.int .i64 ja, .int .i64 jb, .slice xa 1 xcap, .string jd] 26) := ⟨_, rfl⟩
    rw [← hw4] at B4 hb24 hx4 hr4 hs4 hq4
    obtain ⟨D, hD⟩ : ∃ D : Nat → Prop, D = fun j => j < w4.heap.size ∧ j ≠ eb ∧ (j < w0.heap.size ∨ w1.heap.size ≤ j) := ⟨_, rfl⟩
    obtain ⟨G4, hR4, hG4, hn4⟩ := HR1.out.grow hb24
    have hew : w0.heap.size ≤ eb ∧ eb < w1.heap.size := ⟨HR1.out.new, HR1.out.eng.lt⟩
    have z01 := HR1.out.run.ch.size
    have z14 := hb24.size
    have zw := HR0.out.lt
    have z2 := HB2.out.size
    have z23 := HB3.out.size
    have zs := Blk.lt HS2.out
    have HDG := Lib.hid (show ∀ j, D j → G4 j from fun j hj => by
      rw [hD] at hj
      rcases hj.2.2 with h | h
      · exact hR4.run.old j h
      · exact hn4 j h hj.1)
    have HDE := Lib.hid (show ∀ j, D j → j ≠ eb ∧ j < w4.heap.size from fun j hj => by rw [hD] at hj; exact ⟨hj.2.1, hj.1⟩)
    have HDW := Lib.hid (show D w.heap.size ∧ D w1.heap.size ∧ D w3.heap.size from by
      have := B4.lt
      rw [hD]
      exact ⟨⟨by omega, by omega, by omega⟩, ⟨by omega, by omega, by omega⟩, ⟨by omega, by omega, by omega⟩⟩)
    have HX4 := Lib.hid (show VRow D 1 intO w4 (.slice xa 1 xcap) jt from by
      rw [HJL.out] at hx4
      refine hx4.mono fun k hk h => ?_
      rw [hD]
      exact ⟨hk, by omega, by omega⟩)
    have HK4 := Lib.hid B4
    have HS4 := Lib.hid hs4
    have HQ4 := Lib.hid hq4
    have HR4 := Lib.hid hR4
    have HNW := Lib.hid (show w0.heap.size ≤ w1.heap.size from z01)
    clear hb4 B4 hb24 hx4 hr4 hs4 hq4 hR4 hG4 hn4 hew z01 z14 zw z2 z23 zs hD h1 h2
    go_upto_region 5 with fail
    rw [← hw4]
    clear hw4 t1 t2
    go_wp2_with fail
    go_loopw [58] (fun v wi => OnIn w0 w4 D eb x ⟨(ja, jb), jt, jd⟩ m v wi) (fun i _ => m - (intOf i).toNat)
    case atStart => exact ⟨0, G4, rfl, Nat.zero_le _, HR4.out, HDG.out, Ch.refl _ _⟩
    case round =>
      obtain ⟨k, G', rfl, hk, hR, hDG, hch⟩ := hrel
      have HRr := Lib.hid hR
      have HGr := Lib.hid hDG
      have HCr := Lib.hid hch
      by_cases hlt : k < m
      · have ht : decide ((k : Int) < (m : Int)) = true := by simpa using hlt
        have hk4 := HK4.out.ch hch (fun h => h HDW.out.2.2)
        obtain ⟨q1, q2⟩ := hk4.cells
        have l1 := hk4.lt
        have hb5 := below1 wr (.cells #[.int .i64 1, .int .i64 1, .int .i64 (k : Int), .int .i64 ja, .int .i64 jb, .slice xa 1 xcap, .string jd, .int .i64 0, .int .i64 0, .int .i64 0] 41)
        have B5 := Blk.new wr #[.int .i64 1, .int .i64 1, .int .i64 (k : Int), .int .i64 ja, .int .i64 jb, .slice xa 1 xcap, .string jd, .int .i64 0, .int .i64 0, .int .i64 0] 41
        obtain ⟨w5, hw5⟩ : ∃ w5, w5 = wr.alloc (.cells #[.int .i64 1, .int .i64 1, .int .i64 (k : Int), .int .i64 ja, .int .i64 jb, .slice xa 1 xcap, .string jd, .int .i64 0, .int .i64 0, .int .i64 0] 41) := ⟨_, rfl⟩
        have hs5 : w5.heap.size = wr.heap.size + 1 := by rw [hw5]; simp
        rw [← hw5] at hb5 B5
        obtain ⟨G5, hR5, hG5, hn5⟩ := hR.grow hb5
        have hle := hR.eng.lt
        have hit : VRow (fun j => D j ∨ j = wr.heap.size) 10 it10O w5 (.slice (some ⟨wr.heap.size, 0, none⟩) 1 1) [(onceI ⟨(ja, jb), jt, jd⟩ k, .slice xa 1 xcap)] := (one_row B5 (Nat.le_refl _)).mono fun j _ h => .inr (by omega)
        have htv : VRow (fun j => D j ∨ j = wr.heap.size) 1 intO w5 (.slice xa 1 xcap) jt := ((HX4.out.ch hch (fun j hj h => h hj)).below hb5).mono fun j _ h => .inl h
        have HAP := eapply_any hR5 1 (k : Int) (once_right k (by have := HM.out.2; omega)) (once_less k) (onceI ⟨(ja, jb), jt, jd⟩ k) (.slice xa 1 xcap) _ hit htv (fun j hj => hj.elim (fun h => ⟨hG5 j (hDG j h), (HDE.out j h).1⟩) (fun h => ⟨by rw [h]; exact hn5 _ (Nat.le_refl _) (by omega), by omega⟩)) (by have := (once_few ⟨(ja, jb), jt, jd⟩ k).1; omega) (by rw [(once_few ⟨(ja, jb), jt, jd⟩ k).2]; have := HM.out.2; omega) (by show jt.length ≤ _; rw [HJL.out]; omega) (once_apply HRR.out k)
        simp only [if_true] at HAP
        have HAP := Lib.hid HAP
        have HB5 := Lib.hid hb5
        have HG5 := Lib.hid (fun j h => hG5 j (hDG j h))
        have HW2 := Lib.hid (show wrap64 ((k : Int) + 1) = (k : Int) + 1 from IntWalk.wrap64_in _ (by have := HM.out.2; omega))
        have HLT := Lib.hid hlt
        clear hk4 hb5 B5 hs5 hR5 hG5 hn5 hle hit htv hR hDG hch hlt
        go_wp2_with fail
        rw [← hw5]
        clear hw5 q1 q2 l1
        refine HAP.out.mono ?_
        rintro e w6 ⟨rfl, hR6, hc6⟩
        have HR6 := Lib.hid hR6
        have HC6 := Lib.hid ((HCr.out.trans (Ch.of_below (fun j => ¬ D j) HB5.out)).step hc6 (fun j hj e hd => e.elim (fun h => h (HG5.out j hd)) (fun h => (HDE.out j hd).1 h)))
        clear hR6 hc6
        go_wp2_with fail
        go_roundw
        case rel => exact ⟨k + 1, G5, (by first | rfl | (rw [HW2.out]; rfl)), HLT.out, by have h := HR6.out; unfold onceT onceN; rw [if_neg (Nat.succ_ne_zero k), if_neg (Nat.succ_ne_zero k), show (((k + 1 : Nat) : Int) - 1) = (k : Int) by omega]; exact h, HG5.out, HC6.out⟩
        case measure => first | exact rt_meas HW2.out HLT.out | exact rt_meas2 HLT.out
      · have ht : decide ((k : Int) < (m : Int)) = false := by simpa using hlt
        have ht2 : decide (m ≤ k) = true := by simp; omega
        have ht3 : decide (k < m) = false := by simpa using hlt
        obtain rfl : k = m := by omega
        obtain ⟨e1, e2, e3, e4, e5, e6⟩ := once_ses k HM.out.1 HM.out.2
        have HE := Lib.hid (And.intro e4 (And.intro e5 e6))
        have hq := HQ4.out.ch hch (fun h => h HDW.out.1)
        have hss := Blk.ch HS4.out hch (fun h => h HDW.out.2.1)
        have hR' : ERun w0 G' wr eb x 1 ((k : Int) - 1) (onceS ⟨(ja, jb), jt, jd⟩ k) := by
          have h := hR
          unfold onceT onceN at h
          rw [if_neg (by have := HM.out.1; omega), if_neg (by have := HM.out.1; omega)] at h
          exact h
        have hA : Asks w0 G' wr eb x w1.heap.size 1 ((k : Int) - 1) 0 0 0 0 (onceS ⟨(ja, jb), jt, jd⟩ k) := ⟨hR', hss, hDG _ HDW.out.2.1, (HDE.out _ HDW.out.2.1).1, HNW.out, e1, by have := (once_few ⟨(ja, jb), jt, jd⟩ k).1; omega⟩
        have HAP := eapp_any (ja, jb) hA
        rw [show findX (onceS ⟨(ja, jb), jt, jd⟩ k) (ja, jb) = ((1, 0), true) from once_find (R := ⟨(ja, jb), jt, jd⟩) HM.out.1] at HAP
        unfold plV at HAP
        simp only [if_true] at HAP
        have HAP := Lib.hid HAP
        have HEN := Lib.hid (fun w' (h : Below w0.heap.size w0 w') => show Below w.heap.size w w' from HB0.out.trans (h.mono HB0.out.size))
        have HSB := Lib.hid (And.intro (hDG _ HDW.out.2.1) (HDE.out _ HDW.out.2.1).1)
        have HT := Lib.hid (And.intro e2 e3)
        obtain ⟨q1, q2⟩ := hq.cells
        have l1 := hq.lt
        have HF1 := Lib.hid (show (onceS ⟨(ja, jb), jt, jd⟩ k).rows.length ≤ 4194304 by have := (once_few ⟨(ja, jb), jt, jd⟩ k).1; omega)
        have HKP := Lib.hid HM.out.1
        have HRR' := Lib.hid hR'
        clear hq hss hR' hA e1 e2 e3 e4 e5 e6 hR hDG hch HRr
        go_wp2_with fail
        refine HAP.out.mono ?_
        rintro e w5 ⟨rfl, hA5⟩
        obtain ⟨G5, hR5, hG5, _⟩ := HRR'.out.ch hA5.ch (fun j hj => by subst hj; exact ⟨HSB.out.1, HSB.out.2, HNW.out⟩)
        have hb6 := below1 w5 (.cells #[.int .i64 1, .int .i64 0] 39)
        have B6 := Blk.new w5 #[.int .i64 1, .int .i64 0] 39
        have hR6 := hR5.below hb6
        have hs6 := Blk.below hA5.ses hb6
        obtain ⟨w6, hw6⟩ : ∃ w6, w6 = w5.alloc (.cells #[.int .i64 1, .int .i64 0] 39) := ⟨_, rfl⟩
        rw [← hw6] at B6 hR6 hs6
        rw [HT.out.1, HT.out.2] at hs6
        have hA6 : Asks w0 G5 w6 eb x w1.heap.size 1 ((k : Int) - 1) 0 0 1 ((k : Int) - 1) (onceS ⟨(ja, jb), jt, jd⟩ k) := ⟨hR6, hs6, hG5 _ HSB.out.1, HSB.out.2, HNW.out, HE.out.1, HF1.out⟩
        have HTL := etail_any b 0 hA6 HIB.out (by decide)
        rw [once_tail (R := ⟨(ja, jb), jt, jd⟩) HKP.out (by rw [Int.add_zero]; exact HHAS.out)] at HTL
        unfold plV at HTL
        simp only [Option.getD_some, Option.isSome_some, if_true] at HTL
        have HTL := Lib.hid HTL
        have H6 := Lib.hid B6
        have HR6 := Lib.hid hR6
        have HG5 := Lib.hid (hG5 _ HSB.out.1)
        have HSL := Lib.hid (Blk.lt hA5.ses)
        clear hA5 hR5 hG5 hb6 B6 hR6 hs6 hA6 HAP q1 q2 l1
        go_wp2_with fail
        rw [← hw6]
        clear hw6
        refine HTL.out.mono ?_
        rintro e w7 ⟨rfl, hA7⟩
        obtain ⟨G7, hR7, hG7, _⟩ := HR6.out.ch hA7.ch (fun j hj => by subst hj; exact ⟨HG5.out, HSB.out.2, HNW.out⟩)
        have hb8 := below1 w7 (.cells #[.int .i64 1, .int .i64 0] 39)
        have B8 := Blk.new w7 #[.int .i64 1, .int .i64 0] 39
        have h6 := (H6.out.ch hA7.ch (fun e => by have := HSL.out; omega)).below hb8
        have hR8 := hR7.below hb8
        have hs8 := Blk.below hA7.ses hb8
        obtain ⟨w8, hw8⟩ : ∃ w8, w8 = w7.alloc (.cells #[.int .i64 1, .int .i64 0] 39) := ⟨_, rfl⟩
        rw [← hw8] at B8 hR8 hs8 h6
        rw [HE.out.2.1, HE.out.2.2] at hs8
        have hA8 : Asks w0 G7 w8 eb x w1.heap.size 1 ((k : Int) - 1) 0 0 1 ((k : Int) - 1) (onceS ⟨(ja, jb), jt, jd⟩ k) := ⟨hR8, hs8, hG7 _ HG5.out, HSB.out.2, HNW.out, HE.out.1, HF1.out⟩
        have HNX := enext_any b 0 (1, 1) hA8 HIB.out (by decide)
        rw [once_next (R := ⟨(ja, jb), jt, jd⟩) HKP.out (by rw [Int.add_zero]; exact HHAS.out)] at HNX
        unfold plV at HNX
        have HNX := Lib.hid HNX
        have H8 := Lib.hid B8
        have H68 := Lib.hid h6
        have HR8 := Lib.hid hR8
        have HG7 := Lib.hid (hG7 _ HG5.out)
        have HSL7 := Lib.hid (show w1.heap.size < w5.heap.size ∧ w1.heap.size < w7.heap.size from ⟨HSL.out, Blk.lt hA7.ses⟩)
        clear hA7 hR7 hG7 hb8 B8 h6 hR8 hs8 hA8 HTL
        go_wp2_with fail
        rw [← hw8]
        clear hw8
        refine HNX.out.mono ?_
        rintro e w9 ⟨tv9, rfl, hv9, hA9⟩
        obtain ⟨ta9, tcap9, rfl, _, _⟩ := hv9.slice
        unfold recV rw0 rc0
        simp only [Option.getD_none]
        rw [show ([] : List Int).length = 0 from rfl]
        obtain ⟨G9, hR9, _, _⟩ := HR8.out.ch hA9.ch (fun j hj => by subst hj; exact ⟨HG7.out, HSB.out.2, HNW.out⟩)
        have H89 := Lib.hid (H8.out.ch hA9.ch (fun e => by have := HSL7.out.2; omega))
        have H69 := Lib.hid (H68.out.ch hA9.ch (fun e => by have := HSL7.out.1; omega))
        have HB9 := Lib.hid hR9.run.ch
        have hb10 := below2 w9 (.cells #[.int .i64 0, .int .i64 0, .slice ta9 0 tcap9, .string ⟨#[]⟩] 26) (.cells #[.int .i64 0, .int .i64 0] 39)
        have HB10 := Lib.hid hb10
        obtain ⟨w10, hw10⟩ : ∃ w10, w10 = (w9.alloc (.cells #[.int .i64 0, .int .i64 0, .slice ta9 0 tcap9, .string ⟨#[]⟩] 26)).alloc (.cells #[.int .i64 0, .int .i64 0] 39) := ⟨_, rfl⟩
        rw [← hw10] at hb10 HB10
        clear hv9 hA9 hR9 hb10 HNX
        go_wp2_with fail
        rw [← hw10]
        clear hw10
        refine (balive_any _).mono ?_
        rintro e w11 ⟨rfl, hb11⟩
        obtain ⟨q1, q2⟩ := ((H89.out.below HB10.out).below hb11).cells
        obtain ⟨q3, q4⟩ := ((H69.out.below HB10.out).below hb11).cells
        have l1 := ((H89.out.below HB10.out).below hb11).lt
        have l2 := ((H69.out.below HB10.out).below hb11).lt
        have HBX := Lib.hid (HEN.out _ (HB9.out.trans ((HB10.out.trans (hb11.mono HB10.out.size)).mono HB9.out.size)))
        clear hb11
        go_wp2_with fail
        go_ret
        exact ⟨rfl, HBX.out⟩
/-- BookOnce, as its row asks. -/
theorem once_row (b : Int) (p : Rc × Value) (many : Int) (w : World) (_ : (Lit.int .i64 b).wf = true) (hp : VRow (fun k => k < w.heap.size) 1 intO w p.2 p.1.tags ∧ p.1.tags.length ≤ 140737488351232 ∧ p.1.data.size ≤ 140737488351232) (_ : (Lit.int .i64 many).wf = true) :
    Calls Try.prog 3 #[.int .i64 b, .agg (recO p).toArray, .int .i64 many] w fun e w' => e = .returned (.bool true) ∧ Below w.heap.size w w' :=
  once_main b p.1 p.2 many w hp.1
end Go.Proofs.Ytpdibjaeopcimaa
