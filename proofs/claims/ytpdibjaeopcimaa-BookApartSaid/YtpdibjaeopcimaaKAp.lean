/- BookApart: the walk. -/
import Derived.Test.YtpdibjaeopcimaaKo
import Derived.Test.YtpdibjaeopcimaaKp
import Derived.Test.YtpdibjaeopcimaaItm
import Derived.Test.YtpdibjaeopcimaaIFl
set_option linter.unusedVariables false
set_option linter.unusedSimpArgs false
namespace Go.Proofs.Ytpdibjaeopcimaa
open Go.RowKit

/-- The index behind these items. -/
def stA (L : List It) : XSt := L.foldl (fun st i => (applyX st i).1) xst0
theorem stA_snoc (L : List It) (i : It) : stA (L ++ [i]) = (applyX (stA L) i).1 := by unfold stA; rw [List.foldl_append]; rfl
theorem applyX_few (st : XSt) (i : It) : (applyX st i).1.rows.length ≤ st.rows.length + 1 ∧ (applyX st i).1.applied ≤ st.applied + 1 := by
  unfold applyX
  split
  · refine ⟨?_, Nat.le_refl _⟩
    unfold incX addX
    simp only
    split
    · omega
    · simp
  · split
    · exact ⟨Nat.le_succ _, Nat.le_refl _⟩
    · exact ⟨Nat.le_succ _, Nat.le_succ _⟩
theorem stA_few (L : List It) : (stA L).rows.length ≤ L.length ∧ (stA L).applied ≤ L.length := by
  have : ∀ (M : List It) (st : XSt), (M.foldl (fun st i => (applyX st i).1) st).rows.length ≤ st.rows.length + M.length ∧ (M.foldl (fun st i => (applyX st i).1) st).applied ≤ st.applied + M.length := by
    intro M
    induction M with
    | nil => intro st; exact ⟨Nat.le_refl _, Nat.le_refl _⟩
    | cons i M ih =>
      intro st
      have h1 := ih (applyX st i).1
      have h2 := applyX_few st i
      simp only [List.foldl_cons, List.length_cons]
      omega
  have h := this L xst0
  have e1 : xst0.rows.length = 0 := rfl
  have e2 : xst0.applied = 0 := rfl
  unfold stA
  omega
theorem its_take {l : List (It × Value)} {k : Nat} {p : It × Value} (h : l[k]? = some p) : (l.take (k + 1)).map (·.1) = (l.take k).map (·.1) ++ [p.1] := by
  rw [List.take_add_one, h]
  simp
/-- One item, laid into a block of its own. -/
theorem one_item {w : World} {c : Nat} {i : It} {tv : Value} {T : Nat} (h : Blk w c (itO (i, tv)).toArray T) : VRow (fun k => k = c) 12 itO w (.slice (some ⟨c, 0, none⟩) 1 1) [(i, tv)] := by
  refine ⟨_, 1, rfl, Nat.le_refl _, by unfold maxLen; omega, fun j u hu => ⟨c, 0, rfl, h.lt, rfl, fun k v hv => ?_⟩⟩
  obtain ⟨rfl, rfl⟩ : j = 0 ∧ u = (i, tv) := by
    cases j with
    | zero => simp at hu; exact ⟨rfl, hu.symm⟩
    | succ j => simp at hu
  rw [show 0 + (0 * 12 + k) = k by omega, h.cell k]
  simpa using hv
/-- The loop that applies: D: what stays. -/
def AaIn (w0 w2 : World) (D : Nat → Prop) (eb x : Nat) (l : List (It × Value)) (v : Value) (wi : World) : Prop :=
  ∃ (k : Nat) (G : Nat → Prop), v = .int .i64 (k : Int) ∧ k ≤ l.length ∧ ERun w0 G wi eb x 0 0 (stA ((l.take k).map (·.1))) ∧ (∀ j, D j → G j) ∧ Ch (fun j => ¬ D j) w2 wi
/-- The loop that reads. -/
def AbIn (w0 wq : World) (D : Nat → Prop) (eb x sb : Nat) (st : XSt) (v : Value) (wi : World) : Prop :=
  ∃ (k : Nat) (G : Nat → Prop), v = .int .i64 (k : Int) ∧ k ≤ 8 ∧ ERun w0 G wi eb x 0 0 st ∧ (∀ j, D j → G j) ∧ Ch (fun j => ¬ D j ∨ j = sb) wq wi ∧ Sn.Ses wi sb 0 0 0 0
theorem nextE_some {st : XSt} (hg : GoodX st) {t : Int} {a : Pl} {o : Option Rw} (h : nextE st t a = (o, 0)) : ∃ R, o = some R ∧ R ∈ countX st t := by
  unfold nextE askE at h
  split at h
  · cases h
  · cases hn : nextX st t a with
    | none => rw [hn] at h; cases h
    | some R =>
      rw [hn] at h
      cases h
      refine ⟨R, rfl, ?_⟩
      unfold nextX at? at hn
      split at hn
      · cases hn
      · exact List.mem_of_getElem? hn
theorem count_has {st : XSt} {t : Int} {R : Rw} (h : R ∈ countX st t) : hasR R.r t = true := by
  have h1 := (List.mem_filter.1 h).1
  exact (List.mem_filter.1 h1).2
theorem nextE_len {st : XSt} (hg : GoodX st) (t : Int) (a : Pl) : ((nextE st t a).1.getD rw0).r.tags.length ≤ 8 := by
  unfold nextE askE
  split
  · simp [rw0, rc0]
  · simp only
    unfold nextX at?
    split
    · simp [rw0, rc0]
    · cases hk : (countX st t)[(firstN (countX st t) a : Int).toNat]? with
      | none => simp [rw0, rc0]
      | some R => exact good_small hg t R (List.mem_of_getElem? hk)
theorem apart_book {R : Rc} {b k2 : Int} {t : Nat} {ts : List Int} (hb : inB b = true) (ht : t < 8) (hh : hasR R (1 + 1024 * b + t) = true) (ho : openD R = some (k2, ts)) : k2 = b := by
  obtain ⟨h0, h1, h2, h3⟩ := open_find ho
  obtain ⟨_, h4, _, _, _, _, h5⟩ := make_some h3
  obtain ⟨b0, b1⟩ := inB_iff.1 hb
  unfold hasR at hh
  rw [h5] at hh
  simp only [Bool.or_eq_true, beq_iff_eq, List.contains_iff_mem, List.mem_cons, List.mem_map] at hh
  rcases hh with h | h | ⟨u, hu, he⟩
  · omega
  · omega
  · have := inB_iff.1 (h4 u hu).1
    omega
attribute [local go_sem high] eqId eqSeq
set_option maxRecDepth 100000 in
set_option maxHeartbeats 16000000 in
theorem apart_main {v : Value} (l : List (It × Value)) (b : Int) (fr : Pl) (w : World) (hv : ItsAt (fun k => k < w.heap.size) w v l) (hm : l.length ≤ 140737488351232) (htl : ∀ p ∈ l, p.1.r.tags.length ≤ 140737488351232) :
    Calls Try.prog 6 #[v, .int .i64 b, plV fr] w fun e w' => e = .returned (.bool true) ∧ Below w.heap.size w w' := by
  obtain ⟨fa, fb⟩ := fr
  have hb0 := below1 w (.cells #[.int .i64 fa, .int .i64 fb] 39)
  have B0 := Blk.new w #[.int .i64 fa, .int .i64 fb] 39
  obtain ⟨w0, hw0⟩ : ∃ w0, w0 = w.alloc (.cells #[.int .i64 fa, .int .i64 fb] 39) := ⟨_, rfl⟩
  rw [← hw0] at hb0 B0
  have HB0 := Lib.hid hb0
  have HF0 := Lib.hid B0
  have HV0 := Lib.hid (hv.below hb0)
  have HN := Lib.hid (enew_any w0)
  have HTL := Lib.hid (And.intro hm htl)
  obtain ⟨va, vcap, rfl, _, _⟩ := hv.row.slice
  unfold plV
  clear hv hb0 B0 hm htl
  go_enter Try.func6, Try.ntmps6
  go_wp2_with fail
  rw [← hw0]
  clear hw0
  refine HN.out.mono ?_
  rintro e w1 ⟨eb, x, G, rfl, hR⟩
  have HR1 := Lib.hid hR
  have HM := Lib.hid (mine_any 0 w1 (by decide) (by decide))
  clear HN hR
  go_wp2_with fail
  refine HM.out.mono ?_
  rintro e w2 ⟨rfl, hs, hb2⟩
  have HS2 := Lib.hid hs
  have HB2 := Lib.hid hb2
  have HV2 := Lib.hid (HV0.out.below (HR1.out.run.ch.trans (hb2.mono HR1.out.run.ch.size)))
  have HFW := Lib.hid (few_any l w2 HV2.out HTL.out.1)
  have HEND := Lib.hid (fun (w4 : World) (h : Below w1.heap.size w1 w4) => show Below w.heap.size w w4 from HB0.out.trans ((HR1.out.run.ch.trans (h.mono HR1.out.run.ch.size)).mono HB0.out.size))
  have HEN := Lib.hid (fun (w4 : World) (h : Below w0.heap.size w0 w4) => show Below w.heap.size w w4 from HB0.out.trans (h.mono HB0.out.size))
  clear hs hb2 HM
  go_wp2_with fail
  refine HFW.out.mono ?_
  rintro e w3 ⟨bb, rfl, hfew, hb3⟩
  have HB3 := Lib.hid (HB2.out.trans (hb3.mono HB2.out.size))
  have HB23 := Lib.hid hb3
  clear hb3 HFW
  cases bb with
  | false =>
    go_wp2_with fail
    refine (balive_any _).mono ?_
    rintro e w4 ⟨rfl, hb4⟩
    have HB4 := Lib.hid (HEND.out _ (HB3.out.trans (hb4.mono HB3.out.size)))
    clear hb4
    go_wp2_with fail
    go_ret
    exact ⟨rfl, HB4.out⟩
  | true =>
    have HL60 := Lib.hid (hfew rfl).1
    obtain ⟨D, hD⟩ : ∃ D : Nat → Prop, D = fun j => j < w3.heap.size ∧ j ≠ eb ∧ (j < w0.heap.size ∨ w1.heap.size ≤ j) := ⟨_, rfl⟩
    obtain ⟨G4, hR4, hG4, hn4⟩ := HR1.out.grow HB3.out
    have hew : w0.heap.size ≤ eb ∧ eb < w1.heap.size := ⟨HR1.out.new, HR1.out.eng.lt⟩
    have z01 := HR1.out.run.ch.size
    have z14 := HB3.out.size
    have zw := HF0.out.lt
    have z2 := HB2.out.size
    have zs := Blk.lt HS2.out
    have z23 := HB23.out.size
    have z00 := HB0.out.size
    have HDG := Lib.hid (show ∀ j, D j → G4 j from fun j hj => by
      rw [hD] at hj
      rcases hj.2.2 with h | h
      · exact hR4.run.old j h
      · exact hn4 j h hj.1)
    have HDE := Lib.hid (show ∀ j, D j → j ≠ eb ∧ j < w3.heap.size from fun j hj => by rw [hD] at hj; exact ⟨hj.2.1, hj.1⟩)
    have HDW := Lib.hid (show (∀ j, j < w0.heap.size → D j) ∧ D w1.heap.size from by
      rw [hD]
      exact ⟨fun j hj => ⟨by omega, by omega, .inl hj⟩, ⟨by omega, by omega, .inr (Nat.le_refl _)⟩⟩)
    have HV3 := Lib.hid (HV2.out.below HB23.out)
    have HS3 := Lib.hid (show Sn.Ses w3 w1.heap.size 0 0 0 0 from Blk.below HS2.out HB23.out)
    have HF3 := Lib.hid (HF0.out.below (HR1.out.run.ch.trans (HB3.out.mono z01)))
    have HR4 := Lib.hid hR4
    have HNW := Lib.hid (show w0.heap.size ≤ w1.heap.size ∧ w.heap.size < w0.heap.size ∧ w1.heap.size < w3.heap.size from ⟨z01, zw, by omega⟩)
    clear hR4 hG4 hn4 hew z01 z14 zw z2 zs z23 z00 hD hfew
    go_wp2_with fail
    go_loopw [44] (fun v wi => AaIn w0 w3 D eb x l v wi) (fun i _ => l.length - (intOf i).toNat)
    case atStart => exact ⟨0, G4, rfl, Nat.zero_le _, HR4.out, HDG.out, Ch.refl _ _⟩
    case round =>
      obtain ⟨k, G', rfl, hk, hR, hDG, hch⟩ := hrel
      have HRr := Lib.hid hR
      have HGr := Lib.hid hDG
      have HCr := Lib.hid hch
      have HVr := Lib.hid (HV3.out.ch hch (fun j hj h => h (HDW.out.1 j (Nat.lt_trans hj HNW.out.2.1))))
      by_cases hlt : k < l.length
      · have ht : decide ((k : Int) < (l.length : Int)) = true := by simpa using hlt
        obtain ⟨⟨i, tv⟩, hp⟩ : ∃ p, l[k]? = some p := ⟨_, List.getElem?_eq_getElem hlt⟩
        have HST := Lib.hid (show stA ((l.take (k + 1)).map (·.1)) = (applyX (stA ((l.take k).map (·.1))) i).1 by rw [its_take hp, stA_snoc])
        obtain ⟨g, off, cap2, e, hg, hS, htv, c0, c1, c2, c3, c4, c5, c6, c7, c8, c9, c10, c11⟩ := HVr.out.item hp
        cases e
        have htl := HTL.out.2 _ (List.mem_of_getElem? hp)
        obtain ⟨kind, ⟨s1, s2⟩, ⟨⟨i1, i2⟩, tags, data⟩, tag, ⟨u1, u2⟩, ⟨f1, f2⟩⟩ := i
        obtain ⟨ta, tcap, e, _, _⟩ := htv.slice
        simp only at e c0 c1 c2 c3 c4 c5 c6 c7 c8 c9 c10 c11 htv htl
        subst e
        have h12 := below2 wr (.cells #[.int .i64 kind, .int .i64 s1, .int .i64 s2, .int .i64 i1, .int .i64 i2, .slice ta tags.length tcap, .string data, .int .i64 tag, .int .i64 u1, .int .i64 u2, .int .i64 f1, .int .i64 f2] 54) (.cells #[.int .i64 kind, .int .i64 s1, .int .i64 s2, .int .i64 i1, .int .i64 i2, .slice ta tags.length tcap, .string data, .int .i64 tag, .int .i64 u1, .int .i64 u2, .int .i64 f1, .int .i64 f2] 54)
        have B := Blk.new (wr.alloc (.cells #[.int .i64 kind, .int .i64 s1, .int .i64 s2, .int .i64 i1, .int .i64 i2, .slice ta tags.length tcap, .string data, .int .i64 tag, .int .i64 u1, .int .i64 u2, .int .i64 f1, .int .i64 f2] 54)) #[.int .i64 kind, .int .i64 s1, .int .i64 s2, .int .i64 i1, .int .i64 i2, .slice ta tags.length tcap, .string data, .int .i64 tag, .int .i64 u1, .int .i64 u2, .int .i64 f1, .int .i64 f2] 54
        simp only [World.size_alloc] at B
        obtain ⟨wX, hwX⟩ : ∃ wX, wX = (wr.alloc (.cells #[.int .i64 kind, .int .i64 s1, .int .i64 s2, .int .i64 i1, .int .i64 i2, .slice ta tags.length tcap, .string data, .int .i64 tag, .int .i64 u1, .int .i64 u2, .int .i64 f1, .int .i64 f2] 54)).alloc (.cells #[.int .i64 kind, .int .i64 s1, .int .i64 s2, .int .i64 i1, .int .i64 i2, .slice ta tags.length tcap, .string data, .int .i64 tag, .int .i64 u1, .int .i64 u2, .int .i64 f1, .int .i64 f2] 54) := ⟨_, rfl⟩
        rw [← hwX] at h12 B
        have hit := one_item (i := ⟨kind, (s1, s2), ⟨(i1, i2), tags, data⟩, tag, (u1, u2), (f1, f2)⟩) (tv := .slice ta tags.length tcap) B
        have HOW := Lib.hid (bown_any ⟨kind, (s1, s2), ⟨(i1, i2), tags, data⟩, tag, (u1, u2), (f1, f2)⟩ (.slice ta tags.length tcap) _ wX hit ⟨_, _, _, rfl⟩)
        have H12 := Lib.hid h12
        have HTV := Lib.hid htv
        have HW2 := Lib.hid (show wrap64 ((k : Int) + 1) = (k : Int) + 1 from IntWalk.wrap64_in _ (by have := HL60.out; omega))
        have HLT := Lib.hid hlt
        have HTT := Lib.hid htl
        obtain ⟨r2, hr2⟩ : ∃ q, applyX (stA ((l.take k).map (·.1))) ⟨kind, (s1, s2), ⟨(i1, i2), tags, data⟩, tag, (u1, u2), (f1, f2)⟩ = q := ⟨_, rfl⟩
        rw [hr2] at HST
        have HX := Lib.hid hr2
        have mg := (cell_spot c0).2
        simp only at mg
        clear h12 B hit hR hDG hch hlt htl htv hp hr2
        go_upto_region 7 with fail
        go_wp2_with fail
        rw [← hwX]
        clear hwX c0 c1 c2 c3 c4 c5 c6 c7 c8 c9 c10 c11 mg
        refine HOW.out.mono ?_
        rintro e w7 ⟨ov, rfl, hrow, hb7⟩
        have hbr7 := H12.out.trans (hb7.mono H12.out.size)
        obtain ⟨G7, hR7, hG7, hn7⟩ := HRr.out.grow hbr7
        have z7 := H12.out.size
        have zr := HRr.out.eng.lt
        have zc := HCr.out.size
        have hv7 : VRow (fun j => j < w.heap.size ∨ (wr.heap.size ≤ j ∧ j < w7.heap.size)) 10 it10O w7 ov [(⟨kind, (s1, s2), ⟨(i1, i2), tags, data⟩, tag, (u1, u2), (f1, f2)⟩, .slice ta tags.length tcap)] := hrow.mono fun j h1 h2 => .inr ⟨Nat.le_trans z7 h2, h1⟩
        have ht7 : VRow (fun j => j < w.heap.size ∨ (wr.heap.size ≤ j ∧ j < w7.heap.size)) 1 intO w7 (.slice ta tags.length tcap) tags := (HTV.out.below hbr7).mono fun j h1 h2 => .inl h2
        have hk60 := HL60.out
        have hf := stA_few ((l.take k).map (·.1))
        have hlk : ((l.take k).map (·.1)).length ≤ 60 := by simp; omega
        have HAP := eapply_any hR7 0 0 rfl rfl ⟨kind, (s1, s2), ⟨(i1, i2), tags, data⟩, tag, (u1, u2), (f1, f2)⟩ (.slice ta tags.length tcap) ov hv7 ht7 (fun j hj => hj.elim (fun h => ⟨hG7 j (HGr.out j (HDW.out.1 j (Nat.lt_trans h HNW.out.2.1))), (HDE.out j (HDW.out.1 j (Nat.lt_trans h HNW.out.2.1))).1⟩) (fun h => ⟨hn7 j h.1 h.2, by omega⟩)) (by omega) (by omega) HTT.out HX.out
        simp only [ite_self] at HAP
        have HAP := Lib.hid HAP
        have HB7 := Lib.hid hbr7
        have HG7 := Lib.hid (fun j h => hG7 j (HGr.out j h))
        clear hrow hb7 hbr7 hR7 hG7 hn7 z7 zr zc hv7 ht7 hk60 hf hlk HOW
        go_wp2_with fail
        refine HAP.out.mono ?_
        rintro e w8 ⟨rfl, hR8, hc8⟩
        rw [← HST.out] at hR8
        have HR8 := Lib.hid hR8
        have HC8 := Lib.hid ((HCr.out.trans (Ch.of_below (fun j => ¬ D j) HB7.out)).step hc8 (fun j hj e hd => e.elim (fun h => h (HG7.out j hd)) (fun h => (HDE.out j hd).1 h)))
        clear hR8 hc8
        go_wp2_with fail
        go_roundw
        case rel => exact ⟨k + 1, G7, (by first | rfl | (rw [HW2.out]; rfl)), HLT.out, HR8.out, HG7.out, HC8.out⟩
        case measure => first | exact rt_meas HW2.out HLT.out | exact rt_meas2 HLT.out
      · have ht : decide ((k : Int) < (l.length : Int)) = false := by simpa using hlt
        have ht2 : decide (l.length ≤ k) = true := by simp; omega
        have ht3 : decide (k < l.length) = false := by simpa using hlt
        have HS5 := Lib.hid (show Sn.Ses wr w1.heap.size 0 0 0 0 from Blk.ch HS3.out hch (fun h => h HDW.out.2))
        have HFR := Lib.hid (HF3.out.ch hch (fun h => h (HDW.out.1 _ HNW.out.2.1)))
        have HC5 := Lib.hid (show Ch (fun j => ¬ D j ∨ j = w1.heap.size) wr wr from Ch.refl _ _)
        obtain ⟨st, hst⟩ : ∃ st, stA ((l.take k).map (·.1)) = st := ⟨_, rfl⟩
        have HFW5 := Lib.hid (show st.rows.length ≤ 4194304 from by
          have h1 := (stA_few ((l.take k).map (·.1))).1
          have h2 : ((l.take k).map (·.1)).length ≤ k := by simp; omega
          have h3 := HL60.out
          rw [hst] at h1
          omega)
        rw [hst] at HRr
        clear hR hDG hch hst hlt
        go_wp2_with fail
        go_loopw [55] (fun v wi => AbIn w0 wr D eb x w1.heap.size st v wi) (fun i _ => 8 - (intOf i).toNat)
        case atStart => exact ⟨0, G', rfl, Nat.zero_le _, HRr.out, HGr.out, HC5.out, HS5.out⟩
        case round =>
          obtain ⟨k2, G2, rfl, hk2, hR, hDG, hch, hs⟩ := hrel
          by_cases hlt : k2 < 8
          · have ht : decide ((k2 : Int) < 8) = true := decide_eq_true (by omega)
            have hq := HFR.out.ch hch (fun e => e.elim (fun h => h (HDW.out.1 _ HNW.out.2.1)) (fun h => by have := HNW.out.1; have := HNW.out.2.1; omega))
            obtain ⟨q1, q2⟩ := hq.cells
            have l1 := hq.lt
            have HW2 := Lib.hid (show wrap64 ((k2 : Int) + 1) = (k2 : Int) + 1 from IntWalk.wrap64_in _ (by omega))
            have HLT := Lib.hid hlt
            have HGr2 := Lib.hid hDG
            have HCr2 := Lib.hid hch
            have HRr2 := Lib.hid hR
            have HSr2 := Lib.hid hs
            by_cases hB : inB b = true
            · have hT : inB (k2 : Int) = true := inB_iff.2 (by omega)
              have hA : Asks w0 G2 wr eb x w1.heap.size 0 0 0 0 0 0 st := ⟨hR, hs, hDG _ HDW.out.2, (HDE.out _ HDW.out.2).1, HNW.out.1, rfl, HFW5.out⟩
              have HAP := enext_any b (k2 : Int) (fa, fb) hA hB hT
              obtain ⟨⟨o, code⟩, hoc⟩ : ∃ q, nextE st (1 + 1024 * b + (k2 : Int)) (fa, fb) = q := ⟨_, rfl⟩
              have hjl := nextE_len hR.run.good (1 + 1024 * b + (k2 : Int)) (fa, fb)
              rw [hoc] at HAP hjl
              have HOC := Lib.hid hoc
              have HIB := Lib.hid (And.intro hB hT)
              obtain ⟨R, hRR⟩ : ∃ R, o.getD rw0 = R := ⟨_, rfl⟩
              have HOR := Lib.hid hRR
              simp only at HAP hjl
              rw [hRR] at HAP hjl
              obtain ⟨⟨p1, p2⟩, ⟨⟨j1, j2⟩, jt, jd⟩⟩ := R
              unfold recV plV at HAP
              simp only at HAP hjl
              have HAP := Lib.hid HAP
              have HJL := Lib.hid hjl
              clear hA hoc hjl hRR hR hDG hch hs hlt hq hB hT
              go_upto_region 12 with fail
              go_wp2_with fail
              refine HAP.out.mono ?_
              rintro e w5 ⟨tv, rfl, htv, hA5⟩
              obtain ⟨ta, tcap, rfl, _, _⟩ := htv.slice
              obtain ⟨G5, hR5, hG5, _⟩ := HRr2.out.ch hA5.ch (fun j hj => by subst hj; exact ⟨HGr2.out _ HDW.out.2, (HDE.out _ HDW.out.2).1, HNW.out.1⟩)
              have hb6 := below2 w5 (.cells #[.int .i64 j1, .int .i64 j2, .slice ta jt.length tcap, .string jd] 26) (.cells #[.int .i64 p1, .int .i64 p2] 39)
              have B6 := (Blk.new w5 #[.int .i64 j1, .int .i64 j2, .slice ta jt.length tcap, .string jd] 26).alloc (.cells #[.int .i64 p1, .int .i64 p2] 39)
              obtain ⟨w6, hw6⟩ : ∃ w6, w6 = (w5.alloc (.cells #[.int .i64 j1, .int .i64 j2, .slice ta jt.length tcap, .string jd] 26)).alloc (.cells #[.int .i64 p1, .int .i64 p2] 39) := ⟨_, rfl⟩
              rw [← hw6] at hb6 B6
              have HR6 := Lib.hid (hR5.below hb6)
              have HS6 := Lib.hid (show Sn.Ses w6 w1.heap.size 0 0 0 0 from Blk.below hA5.ses hb6)
              have HC6 := Lib.hid ((HCr2.out.step hA5.ch (fun j hj e => .inr e)).trans (Ch.of_below _ hb6))
              have HG5 := Lib.hid (fun j h => hG5 j (HGr2.out j h))
              have HTV6 := Lib.hid (htv.below hb6)
              have H6 := Lib.hid B6
              clear htv hA5 hR5 hG5 hb6 B6 HAP q1 q2 l1
              by_cases h0 : code = 0
              · subst h0
                obtain ⟨R0, ho, hm⟩ := nextE_some HR6.out.run.good HOC.out
                have hR0 := HOR.out
                rw [ho] at hR0
                simp only [Option.getD_some] at hR0
                subst hR0
                have HHB := Lib.hid (count_has hm)
                have HTB := Lib.hid (fun w => rtag_any b (k2 : Int) w)
                rw [tagD_t HIB.out.1 HIB.out.2] at HTB
                have HRO := ropen_any ⟨(j1, j2), jt, jd⟩ _ w6 (HTV6.out.mono fun j h1 _ => h1) (by simp only; have := HJL.out; omega)
                obtain ⟨o2, ho2⟩ : ∃ o2, openD ⟨(j1, j2), jt, jd⟩ = o2 := ⟨_, rfl⟩
                rw [ho2] at HRO
                have HO2 := Lib.hid ho2
                unfold recV at HRO
                simp only at HRO
                have HRO := Lib.hid HRO
                clear ho hm ho2 HOC HOR
                have hz : ((0 : Int) != 0) = false := rfl
                go_wp2_with fail
                rw [← hw6]
                clear hw6
                refine (HTB.out _).mono ?_
                rintro e w7 ⟨rfl, hw⟩
                rw [hw]
                clear hw
                obtain ⟨q1, q2⟩ := H6.out.cells
                have l1 := H6.out.lt
                go_upto_region 15 with fail
                go_wp2_with fail
                refine HRO.out.mono ?_
                rintro e w7 ⟨nv, rfl, hn, hb7⟩
                clear q1 q2 l1
                have h7 := H6.out.below hb7
                obtain ⟨q1, q2⟩ := h7.cells
                have l1 := h7.lt
                have HHS := rhas_any ⟨(j1, j2), jt, jd⟩ _ (1 + 1024 * b + (k2 : Int)) w7 (HTV6.out.below hb7) (by simp only; have := HJL.out; omega)
                rw [HHB.out] at HHS
                unfold recV at HHS
                simp only at HHS
                have HHS := Lib.hid HHS
                have HB7 := Lib.hid hb7
                have HOK := Lib.hid (show o2.isSome = true → (o2.getD (0, [])).1 = b from fun h => by
                  obtain ⟨⟨b2, ts⟩, e⟩ := Option.isSome_iff_exists.1 h
                  rw [e]
                  exact apart_book HIB.out.1 HLT.out HHB.out (HO2.out.trans e))
                obtain ⟨bi, hbi⟩ : ∃ q, o2.isSome = q := ⟨_, rfl⟩
                obtain ⟨⟨kb, ks⟩, hkb⟩ : ∃ q, o2.getD (0, []) = q := ⟨_, rfl⟩
                rw [hbi, hkb] at HOK ⊢
                simp only at HOK ⊢
                obtain ⟨na, ncap, rfl, _, _⟩ := hn.slice
                rw [hkb]
                simp only
                clear hn hb7 h7 hbi hkb HRO
                cases bi with
                | true =>
                  have hkk : kb = b := HOK.out rfl
                  subst hkk
                  have hbb : (kb != kb) = false := by simp
                  go_upto_region 16 with fail
                  go_wp2_with fail
                  refine HHS.out.mono ?_
                  rintro e w8 ⟨rfl, hb8⟩
                  have hb68 := HB7.out.trans (hb8.mono HB7.out.size)
                  have HR8 := Lib.hid (HR6.out.below hb68)
                  have HS8 := Lib.hid (show Sn.Ses w8 w1.heap.size 0 0 0 0 from Blk.below HS6.out hb68)
                  have HC8 := Lib.hid (HC6.out.trans (Ch.of_below _ hb68))
                  clear hb8 hb68 q1 q2 l1
                  go_wp2_with fail
                  go_roundw
                  case rel => exact ⟨k2 + 1, G5, (by first | rfl | (rw [HW2.out]; rfl)), HLT.out, HR8.out, HG5.out, HC8.out, HS8.out⟩
                  case measure => first | exact rt_meas HW2.out HLT.out | exact rt_meas2 HLT.out
                | false =>
                  go_upto_region 16 with fail
                  go_wp2_with fail
                  refine HHS.out.mono ?_
                  rintro e w8 ⟨rfl, hb8⟩
                  have hb68 := HB7.out.trans (hb8.mono HB7.out.size)
                  have HR8 := Lib.hid (HR6.out.below hb68)
                  have HS8 := Lib.hid (show Sn.Ses w8 w1.heap.size 0 0 0 0 from Blk.below HS6.out hb68)
                  have HC8 := Lib.hid (HC6.out.trans (Ch.of_below _ hb68))
                  clear hb8 hb68 q1 q2 l1
                  go_wp2_with fail
                  go_roundw
                  case rel => exact ⟨k2 + 1, G5, (by first | rfl | (rw [HW2.out]; rfl)), HLT.out, HR8.out, HG5.out, HC8.out, HS8.out⟩
                  case measure => first | exact rt_meas HW2.out HLT.out | exact rt_meas2 HLT.out
              · have hne : (code != 0) = true := by simpa using h0
                go_wp2_with fail
                rw [← hw6]
                clear hw6
                go_roundw
                case rel => exact ⟨k2 + 1, G5, (by first | rfl | (rw [HW2.out]; rfl)), HLT.out, HR6.out, HG5.out, HC6.out, HS6.out⟩
                case measure => first | exact rt_meas HW2.out HLT.out | exact rt_meas2 HLT.out
            · have hbt : (tagD b (k2 : Int)).2 = false := by rw [tagD_f1 (by simpa using hB)]
              have HAP := Lib.hid (enext_bad (W := wr) (eb := eb) (sb := w1.heap.size) b (k2 : Int) (fa, fb) hbt)
              unfold recV rc0 plV at HAP
              simp only at HAP
              clear hbt hR hDG hch hs hlt hq hB
              go_upto_region 12 with fail
              go_wp2_with fail
              refine HAP.out.mono ?_
              rintro e w5 ⟨rfl, hb5⟩
              have hb6 := hb5.trans ((below2 w5 (.cells #[.int .i64 0, .int .i64 0, .slice none 0 0, .string ⟨#[]⟩] 26) (.cells #[.int .i64 0, .int .i64 0] 39)).mono hb5.size)
              obtain ⟨w6, hw6⟩ : ∃ w6, w6 = (w5.alloc (.cells #[.int .i64 0, .int .i64 0, .slice none 0 0, .string ⟨#[]⟩] 26)).alloc (.cells #[.int .i64 0, .int .i64 0] 39) := ⟨_, rfl⟩
              rw [← hw6] at hb6
              have HR6 := Lib.hid (HRr2.out.below hb6)
              have HS6 := Lib.hid (show Sn.Ses w6 w1.heap.size 0 0 0 0 from Blk.below HSr2.out hb6)
              have HC6 := Lib.hid (HCr2.out.trans (Ch.of_below _ hb6))
              clear hb5 hb6 HAP q1 q2 l1
              go_wp2_with fail
              rw [← hw6]
              clear hw6
              go_roundw
              case rel => exact ⟨k2 + 1, G2, (by first | rfl | (rw [HW2.out]; rfl)), HLT.out, HR6.out, HGr2.out, HC6.out, HS6.out⟩
              case measure => first | exact rt_meas HW2.out HLT.out | exact rt_meas2 HLT.out
          · have ht : decide ((k2 : Int) < 8) = false := decide_eq_false (by omega)
            have HBX := Lib.hid hR.run.ch
            clear hR hDG hch hs hlt
            go_wp2_with fail
            refine (balive_any _).mono ?_
            rintro e w5 ⟨rfl, hb5⟩
            have HB5 := Lib.hid (HEN.out _ (HBX.out.trans (hb5.mono HBX.out.size)))
            clear hb5
            go_wp2_with fail
            go_ret
            exact ⟨rfl, HB5.out⟩
/-- BookApart, as its row asks. -/
theorem apart_row {v : Value} (l : List (It × Value)) (b : Int) (fr : Pl) (w : World) (ro : VRow (fun k => k < w.heap.size) 12 itO w v l) (ok : ∀ p ∈ l, VRow (fun k => k < w.heap.size) 1 intO w p.2 p.1.r.tags ∧ p.1.r.tags.length ≤ 140737488351232 ∧ p.1.r.data.size ≤ 140737488351232) (hl : l.length * 120 ≤ 140737488351232) (_ : (Lit.int .i64 b).wf = true) (_ : (Lit.int .i64 fr.1).wf = true ∧ (Lit.int .i64 fr.2).wf = true) :
    Calls Try.prog 6 #[v, .int .i64 b, plV fr] w fun e w' => e = .returned (.bool true) ∧ Below w.heap.size w w' :=
  apart_main l b fr w (its_of ro ok) (by omega) (fun p hp => (ok p hp).2.1)
end Go.Proofs.Ytpdibjaeopcimaa
