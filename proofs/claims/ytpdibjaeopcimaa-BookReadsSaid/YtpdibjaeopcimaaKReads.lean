/- BookReads: the walk. -/
import Derived.Test.YtpdibjaeopcimaaKr
import Derived.Test.YtpdibjaeopcimaaKp
import Derived.Test.YtpdibjaeopcimaaItm
import Derived.Test.YtpdibjaeopcimaaIFl
import Derived.Test.YtpdibjaeopcimaaIo
set_option linter.unusedVariables false
set_option linter.unusedSimpArgs false
namespace Go.Proofs.Ytpdibjaeopcimaa
open Go.RowKit

/-- One item, laid into a block of its own. -/
theorem one_item1 {w : World} {c : Nat} {i : It} {tv : Value} {T : Nat} (h : Blk w c (itO (i, tv)).toArray T) : VRow (fun k => k = c) 12 itO w (.slice (some ⟨c, 0, none⟩) 1 1) [(i, tv)] := by
  refine ⟨_, 1, rfl, Nat.le_refl _, by unfold maxLen; omega, fun j u hu => ⟨c, 0, rfl, h.lt, rfl, fun k v hv => ?_⟩⟩
  obtain ⟨rfl, rfl⟩ : j = 0 ∧ u = (i, tv) := by
    cases j with
    | zero => simp at hu; exact ⟨rfl, hu.symm⟩
    | succ j => simp at hu
  rw [show 0 + (0 * 12 + k) = k by omega, h.cell k]
  simpa using hv
/-- The loop that applies: D: what stays. -/
def RaIn (w w3 : World) (D : Nat → Prop) (eb x n : Nat) (v : Value) (wi : World) : Prop :=
  ∃ (k : Nat) (st : XSt) (G : Nat → Prop), v = .int .i64 (k : Int) ∧ k ≤ n ∧ ERun w G wi eb x 0 0 st ∧ BkOk st k ∧ (∀ j, D j → G j) ∧ Ch (fun j => ¬ D j) w3 wi
/-- The loop that reads on. -/
def RnIn (w4 : World) (sb ab : Nat) (ls : List Pl) (v9 v65 : Value) (wi : World) : Prop :=
  ∃ j : Nat, v65 = .int .i64 (j : Int) ∧ j ≤ ls.length ∧ PRow wi w4.heap.size v9 (ls.take j) ∧ Blk wi ab #[.int .i64 (atN ls j).1, .int .i64 (atN ls j).2] 39 ∧ Sn.Ses wi sb 0 0 0 0 ∧ Ch (fun k => k = sb ∨ k = ab) w4 wi
/-- The loop that reads back. -/
def RpIn (w9 : World) (sb ab : Nat) (ls : List Pl) (v : Value) (wi : World) : Prop :=
  ∃ (m : Nat) (i : Int), v = .int .i64 i ∧ i = (m : Int) - 1 ∧ m ≤ ls.length ∧ Blk wi ab #[.int .i64 (atP ls m).1, .int .i64 (atP ls m).2] 39 ∧ Sn.Ses wi sb 0 0 0 0 ∧ Ch (fun k => k = sb ∨ k = ab) w9 wi
theorem rd_meas {k m : Nat} (h : wrap64 ((k : Int) + 1) = (k : Int) + 1) (h2 : k < m) : m + 1 - (intOf (.int .i64 (wrap64 ((k : Int) + 1)))).toNat < m + 1 - (intOf (.int .i64 (k : Int))).toNat := by
  rw [h]
  simp only [intOf]
  omega
theorem rd_meas2 {k m : Nat} (h2 : k < m) : m + 1 - (intOf (.int .i64 ((k : Int) + 1))).toNat < m + 1 - (intOf (.int .i64 (k : Int))).toNat := by
  simp only [intOf]
  omega
attribute [local go_sem high] eqId eqSeq
set_option maxRecDepth 100000 in
set_option maxHeartbeats 16000000 in
theorem breads_main {v : Value} (l : List (It × Value)) (b : Int) (w : World) (hv : ItsAt (fun k => k < w.heap.size) w v l) (hm : l.length ≤ 140737488351232) (htl : ∀ p ∈ l, p.1.r.tags.length ≤ 140737488351232) :
    Calls Try.prog 4 #[v, .int .i64 b] w fun e w' => e = .returned (.bool true) ∧ Below w.heap.size w w' := by
  have HV0 := Lib.hid hv
  have HN := Lib.hid (enew_any w)
  have HTL := Lib.hid (And.intro hm htl)
  obtain ⟨va, vcap, rfl, _, _⟩ := hv.row.slice
  clear hv hm htl
  go_enter Try.func4, Try.ntmps4
  go_wp2_with fail
  refine HN.out.mono ?_
  rintro e w1 ⟨eb, x, G, rfl, hR⟩
  have HR1 := Lib.hid hR
  have HM := Lib.hid (mine_any 0 w1 (by decide) (by decide))
  clear HN hR
  go_wp2_with fail
  refine HM.out.mono ?_
  rintro e w2 ⟨rfl, hs, hb2⟩
  have HS2 := Lib.hid hs
  have HB2 := Lib.hid hb2
  have HV2 := Lib.hid (HV0.out.below (HR1.out.run.ch.trans (hb2.mono HR1.out.run.ch.size)))
  have HFW := Lib.hid (few_any l w2 HV2.out HTL.out.1)
  have HEND := Lib.hid (fun (w4 : World) (h : Below w1.heap.size w1 w4) => show Below w.heap.size w w4 from HR1.out.run.ch.trans (h.mono HR1.out.run.ch.size))
  clear hs hb2 HM
  go_wp2_with fail
  refine HFW.out.mono ?_
  rintro e w3 ⟨bb, rfl, hfew, hb3⟩
  have HB3 := Lib.hid (HB2.out.trans (hb3.mono HB2.out.size))
  have HB23 := Lib.hid hb3
  clear hb3 HFW
  cases bb with
  | false =>
    go_wp2_with fail
    refine (balive_any _).mono ?_
    rintro e w4 ⟨rfl, hb4⟩
    have HB4 := Lib.hid (HEND.out _ (HB3.out.trans (hb4.mono HB3.out.size)))
    clear hb4
    go_wp2_with fail
    go_ret
    exact ⟨rfl, HB4.out⟩
  | true =>
    have HL60 := Lib.hid (hfew rfl).1
    have HLOW := Lib.hid (hfew rfl).2
    obtain ⟨D, hD⟩ : ∃ D : Nat → Prop, D = fun j => j < w3.heap.size ∧ j ≠ eb ∧ (j < w.heap.size ∨ w1.heap.size ≤ j) := ⟨_, rfl⟩
    obtain ⟨G4, hR4, hG4, hn4⟩ := HR1.out.grow HB3.out
    have hew : w.heap.size ≤ eb ∧ eb < w1.heap.size := ⟨HR1.out.new, HR1.out.eng.lt⟩
    have z01 := HR1.out.run.ch.size
    have z14 := HB3.out.size
    have z2 := HB2.out.size
    have zs := Blk.lt HS2.out
    have z23 := HB23.out.size
    have HDG := Lib.hid (show ∀ j, D j → G4 j from fun j hj => by
      rw [hD] at hj
      rcases hj.2.2 with h | h
      · exact hR4.run.old j h
      · exact hn4 j h hj.1)
    have HDE := Lib.hid (show ∀ j, D j → j ≠ eb ∧ j < w3.heap.size from fun j hj => by rw [hD] at hj; exact ⟨hj.2.1, hj.1⟩)
    have HDW := Lib.hid (show (∀ j, j < w.heap.size → D j) ∧ D w1.heap.size from by
      rw [hD]
      exact ⟨fun j hj => ⟨by omega, by omega, .inl hj⟩, ⟨by omega, by omega, .inr (Nat.le_refl _)⟩⟩)
    have HV3 := Lib.hid (HV2.out.below HB23.out)
    have HS3 := Lib.hid (show Sn.Ses w3 w1.heap.size 0 0 0 0 from Blk.below HS2.out HB23.out)
    have HR4 := Lib.hid hR4
    have HNW := Lib.hid (show w.heap.size ≤ w1.heap.size ∧ w1.heap.size < w3.heap.size from ⟨z01, by omega⟩)
    clear hR4 hG4 hn4 hew z01 z14 z2 zs z23 hD hfew
    go_wp2_with fail
    go_loopw [47] (fun v wi => RaIn w w3 D eb x l.length v wi) (fun i _ => l.length - (intOf i).toNat)
    case atStart => exact ⟨0, xst0, G4, rfl, Nat.zero_le _, HR4.out, BkOk.zero, HDG.out, Ch.refl _ _⟩
    case round =>
      obtain ⟨k, st, G', rfl, hk, hR, hok, hDG, hch⟩ := hrel
      have HRr := Lib.hid hR
      have HOK := Lib.hid hok
      have HGr := Lib.hid hDG
      have HCr := Lib.hid hch
      have HVr := Lib.hid (HV3.out.ch hch (fun j hj h => h (HDW.out.1 j hj)))
      by_cases hlt : k < l.length
      · have ht : decide ((k : Int) < (l.length : Int)) = true := by simpa using hlt
        obtain ⟨⟨i, tv⟩, hp⟩ : ∃ p, l[k]? = some p := ⟨_, List.getElem?_eq_getElem hlt⟩
        obtain ⟨g, off, cap2, e, hg, hS, htv, c0, c1, c2, c3, c4, c5, c6, c7, c8, c9, c10, c11⟩ := HVr.out.item hp
        cases e
        have htl := HTL.out.2 _ (List.mem_of_getElem? hp)
        have hlo := HLOW.out _ (List.mem_of_getElem? hp)
        obtain ⟨kind, ⟨s1, s2⟩, ⟨⟨i1, i2⟩, tags, data⟩, tag, ⟨u1, u2⟩, ⟨f1, f2⟩⟩ := i
        obtain ⟨ta, tcap, e, _, _⟩ := htv.slice
        simp only at e c0 c1 c2 c3 c4 c5 c6 c7 c8 c9 c10 c11 htv htl hlo
        subst e
        have HLO := Lib.hid hlo
        have HTV := Lib.hid htv
        have HW2 := Lib.hid (show wrap64 ((k : Int) + 1) = (k : Int) + 1 from IntWalk.wrap64_in _ (by have := HL60.out; omega))
        have HLT := Lib.hid hlt
        have HTT := Lib.hid htl
        have mg := (cell_spot c0).2
        simp only at mg
        by_cases hk1 : kind = 1
        · have hkt : (kind == 1) = true := by simpa using hk1
          have HK1 := Lib.hid hk1
          have h12 := below2 wr (.cells #[.int .i64 kind, .int .i64 s1, .int .i64 s2, .int .i64 i1, .int .i64 i2, .slice ta tags.length tcap, .string data, .int .i64 tag, .int .i64 u1, .int .i64 u2, .int .i64 f1, .int .i64 f2] 54) (.cells #[.int .i64 kind, .int .i64 s1, .int .i64 s2, .int .i64 i1, .int .i64 i2, .slice ta tags.length tcap, .string data, .int .i64 tag, .int .i64 u1, .int .i64 u2, .int .i64 f1, .int .i64 f2] 54)
          have B := Blk.new (wr.alloc (.cells #[.int .i64 kind, .int .i64 s1, .int .i64 s2, .int .i64 i1, .int .i64 i2, .slice ta tags.length tcap, .string data, .int .i64 tag, .int .i64 u1, .int .i64 u2, .int .i64 f1, .int .i64 f2] 54)) #[.int .i64 kind, .int .i64 s1, .int .i64 s2, .int .i64 i1, .int .i64 i2, .slice ta tags.length tcap, .string data, .int .i64 tag, .int .i64 u1, .int .i64 u2, .int .i64 f1, .int .i64 f2] 54
          simp only [World.size_alloc] at B
          obtain ⟨wX, hwX⟩ : ∃ wX, wX = (wr.alloc (.cells #[.int .i64 kind, .int .i64 s1, .int .i64 s2, .int .i64 i1, .int .i64 i2, .slice ta tags.length tcap, .string data, .int .i64 tag, .int .i64 u1, .int .i64 u2, .int .i64 f1, .int .i64 f2] 54)).alloc (.cells #[.int .i64 kind, .int .i64 s1, .int .i64 s2, .int .i64 i1, .int .i64 i2, .slice ta tags.length tcap, .string data, .int .i64 tag, .int .i64 u1, .int .i64 u2, .int .i64 f1, .int .i64 f2] 54) := ⟨_, rfl⟩
          rw [← hwX] at h12 B
          have hit := one_item1 (i := ⟨kind, (s1, s2), ⟨(i1, i2), tags, data⟩, tag, (u1, u2), (f1, f2)⟩) (tv := .slice ta tags.length tcap) B
          have HOW := Lib.hid (bown_any ⟨kind, (s1, s2), ⟨(i1, i2), tags, data⟩, tag, (u1, u2), (f1, f2)⟩ (.slice ta tags.length tcap) _ wX hit ⟨_, _, _, rfl⟩)
          have H12 := Lib.hid h12
          obtain ⟨r2, hr2⟩ : ∃ q, applyX st ⟨kind, (s1, s2), ⟨(i1, i2), tags, data⟩, tag, (u1, u2), (f1, f2)⟩ = q := ⟨_, rfl⟩
          have HX := Lib.hid hr2
          clear h12 B hit hR hok hDG hch hlt htl htv hp hr2 hlo hk1
          go_upto_region 8 with fail
          go_wp2_with fail
          rw [← hwX]
          clear hwX c0 c1 c2 c3 c4 c5 c6 c7 c8 c9 c10 c11 mg
          refine HOW.out.mono ?_
          rintro e w7 ⟨ov, rfl, hrow, hb7⟩
          have hbr7 := H12.out.trans (hb7.mono H12.out.size)
          obtain ⟨G7, hR7, hG7, hn7⟩ := HRr.out.grow hbr7
          have z7 := H12.out.size
          have zr := HRr.out.eng.lt
          have zc := HCr.out.size
          have hv7 : VRow (fun j => j < w.heap.size ∨ (wr.heap.size ≤ j ∧ j < w7.heap.size)) 10 it10O w7 ov [(⟨kind, (s1, s2), ⟨(i1, i2), tags, data⟩, tag, (u1, u2), (f1, f2)⟩, .slice ta tags.length tcap)] := hrow.mono fun j h1 h2 => .inr ⟨Nat.le_trans z7 h2, h1⟩
          have ht7 : VRow (fun j => j < w.heap.size ∨ (wr.heap.size ≤ j ∧ j < w7.heap.size)) 1 intO w7 (.slice ta tags.length tcap) tags := (HTV.out.below hbr7).mono fun j h1 h2 => .inl h2
          have hk60 := HL60.out
          have hok1 := HOK.out.rows
          have hok2 := HOK.out.app
          have HAP := eapply_any hR7 0 0 rfl rfl ⟨kind, (s1, s2), ⟨(i1, i2), tags, data⟩, tag, (u1, u2), (f1, f2)⟩ (.slice ta tags.length tcap) ov hv7 ht7 (fun j hj => hj.elim (fun h => ⟨hG7 j (HGr.out j (HDW.out.1 j h)), (HDE.out j (HDW.out.1 j h)).1⟩) (fun h => ⟨hn7 j h.1 h.2, by omega⟩)) (by omega) (by omega) HTT.out HX.out
          simp only [ite_self] at HAP
          have HAP := Lib.hid HAP
          have HB7 := Lib.hid hbr7
          have HG7 := Lib.hid (fun j h => hG7 j (HGr.out j h))
          have HOK2 := HOK.out.step (i := ⟨kind, (s1, s2), ⟨(i1, i2), tags, data⟩, tag, (u1, u2), (f1, f2)⟩) HK1.out HLO.out
          rw [HX.out] at HOK2
          have HOK2 := Lib.hid HOK2
          clear hrow hb7 hbr7 hR7 hG7 hn7 z7 zr zc hv7 ht7 hk60 hok1 hok2 HOW
          go_wp2_with fail
          refine HAP.out.mono ?_
          rintro e w8 ⟨rfl, hR8, hc8⟩
          have HR8 := Lib.hid hR8
          have HC8 := Lib.hid ((HCr.out.trans (Ch.of_below (fun j => ¬ D j) HB7.out)).step hc8 (fun j hj e hd => e.elim (fun h => h (HG7.out j hd)) (fun h => (HDE.out j hd).1 h)))
          clear hR8 hc8
          go_wp2_with fail
          go_roundw
          case rel => exact ⟨k + 1, r2.1, G7, (by first | rfl | (rw [HW2.out]; rfl)), HLT.out, HR8.out, HOK2.out, HG7.out, HC8.out⟩
          case measure => first | exact rt_meas HW2.out HLT.out | exact rt_meas2 HLT.out
        · have hkt : (kind == 1) = false := by simpa using hk1
          have h12 := below1 wr (.cells #[.int .i64 kind, .int .i64 s1, .int .i64 s2, .int .i64 i1, .int .i64 i2, .slice ta tags.length tcap, .string data, .int .i64 tag, .int .i64 u1, .int .i64 u2, .int .i64 f1, .int .i64 f2] 54)
          have HR8 := Lib.hid (hR.below h12)
          have HC8 := Lib.hid (hch.trans (Ch.of_below (fun j => ¬ D j) h12))
          clear h12 hR hok hDG hch hlt htl htv hp hlo hk1
          go_wp2_with fail
          go_roundw
          case rel => exact ⟨k + 1, st, G', (by first | rfl | (rw [HW2.out]; rfl)), HLT.out, HR8.out, HOK.out.more, HGr.out, HC8.out⟩
          case measure => first | exact rt_meas HW2.out HLT.out | exact rt_meas2 HLT.out
      · have ht : decide ((k : Int) < (l.length : Int)) = false := by simpa using hlt
        have ht2 : decide (l.length ≤ k) = true := by simp; omega
        have ht3 : decide (k < l.length) = false := by simpa using hlt
        obtain rfl : k = l.length := by omega
        have hb4 := below1 wr (.cells #[.int .i64 0, .int .i64 0] 39)
        have B4 := Blk.new wr #[.int .i64 0, .int .i64 0] 39
        obtain ⟨G5, hR5, hG5, hn5⟩ := hR.grow hb4
        have hs4 : Sn.Ses _ w1.heap.size 0 0 0 0 := Blk.below (Blk.ch HS3.out hch (fun h => h HDW.out.2)) hb4
        have hel := hR.eng.lt
        have hcs := hch.size
        obtain ⟨ab, hab⟩ : ∃ ab, ab = wr.heap.size := ⟨_, rfl⟩
        have hsz : (wr.alloc (.cells #[.int .i64 0, .int .i64 0] 39)).heap.size = ab + 1 := by simp [hab]
        obtain ⟨w4, hw4⟩ : ∃ w4, w4 = wr.alloc (.cells #[.int .i64 0, .int .i64 0] 39) := ⟨_, rfl⟩
        rw [← hw4] at hb4 B4 hR5 hn5 hs4 hsz
        have HSZ := Lib.hid (show w.heap.size ≤ w1.heap.size ∧ w1.heap.size < ab ∧ w4.heap.size = ab + 1 ∧ w1.heap.size ≠ eb ∧ ab ≠ eb from by
          have h1 := HNW.out
          have h2 := (HDE.out _ HDW.out.2).1
          exact ⟨h1.1, by omega, hsz, h2, by omega⟩)
        have HASK := Lib.hid (show ∀ wi, Ch (fun j => j = w1.heap.size ∨ j = ab) w4 wi → Sn.Ses wi w1.heap.size 0 0 0 0 → ∃ G, Asks w G wi eb x w1.heap.size 0 0 0 0 0 0 st from fun wi hc hs => by
          have hgs := hG5 _ (hDG _ HDW.out.2)
          have hga := hn5 ab (by omega) (by omega)
          have hz := HSZ.out
          obtain ⟨G6, hR6, hG6, _⟩ := hR5.ch hc (fun j e => by
            rcases e with rfl | rfl
            · exact ⟨hgs, hz.2.2.2.1, hz.1⟩
            · exact ⟨hga, hz.2.2.2.2, by omega⟩)
          exact ⟨G6, hR6, hs, hG6 _ hgs, hz.2.2.2.1, hz.1, rfl, by have := hok.rows; have := HL60.out; omega⟩)
        have HFIN := Lib.hid (show ∀ wi, Ch (fun j => j = w1.heap.size ∨ j = ab) w4 wi → Below w.heap.size w wi from fun wi hc => Ch.below ((Ch.of_below (fun _ => False) hR5.run.ch).step hc (fun j hj e => by have := HSZ.out; rcases e with rfl | rfl <;> omega)))
        have HGD := Lib.hid hR.run.good
        have HS4 := Lib.hid hs4
        have HA4 := Lib.hid (show Blk w4 ab #[.int .i64 0, .int .i64 0] 39 by rw [hab]; exact B4)
        obtain ⟨ls, hls⟩ : ∃ ls, lsB st b = ls := ⟨_, rfl⟩
        have HLS := Lib.hid hls
        have HTR := Lib.hid (And.intro hok.tr hok.low)
        have HLEN := Lib.hid (show ls.length ≤ l.length from by rw [← hls]; exact Nat.le_trans (lsB_len st b) hok.rows)
        have HWLL := Lib.hid <| show wrap64 ((l.length : Int) + 1) = (l.length : Int) + 1 from IntWalk.wrap64_in _ (by have := HL60.out; omega)
        clear hb4 B4 hR5 hG5 hn5 hs4 hel hcs hsz hls hR hok hDG hch hlt HRr HGr HCr HVr hk
        go_wp2_with fail
        rw [← hw4, ← hab]
        clear hw4 hab
        go_loopw [9, 65] (fun v9 v65 wi => RnIn w4 w1.heap.size ab ls v9 v65 wi) (fun _ i _ => l.length + 1 - (intOf i).toNat)
        case atStart => exact ⟨0, rfl, Nat.zero_le _, ORow.nil _ _, HA4.out, HS4.out, Ch.refl _ _⟩
        case round =>
          obtain ⟨j, rfl, hj, hrow, hB, hs, hch⟩ := hrel
          have ht : decide ((j : Int) < wrap64 ((l.length : Int) + 1)) = true := decide_eq_true (by rw [HWLL.out]; have := HLEN.out; omega)
          obtain ⟨ra, rcap, hre, _, _⟩ := hrow.slice
          have hlj : (ls.take j).length = j := by rw [List.length_take, Nat.min_eq_left hj]
          rw [hlj] at hre
          subst hre
          have HLJ := Lib.hid hlj
          clear hlj
          obtain ⟨G6, hA⟩ := HASK.out _ hch hs
          obtain ⟨⟨ta, tb⟩, hta⟩ : ∃ q, atN ls j = q := ⟨_, rfl⟩
          have HNX := rd_next hA HTR.out.1 b (j := j) (a := (ta, tb)) (by rw [HLS.out]; exact hj) (by rw [HLS.out]; exact hta)
          rw [HLS.out] at HNX
          unfold plV recV at HNX
          simp only at HNX
          rw [hta] at hB
          have HNX := Lib.hid HNX
          have HTA := Lib.hid hta
          have HBk := Lib.hid hB
          have HC := Lib.hid hch
          have HROW := Lib.hid hrow
          have HJ := Lib.hid hj
          obtain ⟨q1, q2⟩ := hB.cells
          have l9 := hB.lt
          clear hA hta hB hch hrow hs hj
          go_upto_region 14 with fail
          go_wp2_with fail
          refine HNX.out.mono ?_
          rintro e w5 ⟨R, tv, code, rfl, htv, hgood, hend, hs5, hc5⟩
          obtain ⟨⟨pa, pb⟩, ⟨⟨ia, ib⟩, jt, jd⟩⟩ := R
          obtain ⟨tta, tcap, rfl, _, _⟩ := htv.slice
          simp only at hgood htv
          simp only
          have hb6 := below2 w5 (.cells #[.int .i64 ia, .int .i64 ib, .slice tta jt.length tcap, .string jd] 26) (.cells #[.int .i64 pa, .int .i64 pb] 39)
          have BP := Blk.new (w5.alloc (.cells #[.int .i64 ia, .int .i64 ib, .slice tta jt.length tcap, .string jd] 26)) #[.int .i64 pa, .int .i64 pb] 39
          rw [World.size_alloc] at BP
          obtain ⟨w6, hw6⟩ : ∃ w6, w6 = (w5.alloc (.cells #[.int .i64 ia, .int .i64 ib, .slice tta jt.length tcap, .string jd] 26)).alloc (.cells #[.int .i64 pa, .int .i64 pb] 39) := ⟨_, rfl⟩
          rw [← hw6] at hb6 BP
          have HP6 := Lib.hid BP
          have HC6 := Lib.hid ((HC.out.step hc5 (fun j hj e => .inl e)).trans (Ch.of_below _ hb6))
          have HA6 := Lib.hid ((HBk.out.ch hc5 (fun e => by have := HSZ.out; omega)).below hb6)
          have HS6 := Lib.hid (show Sn.Ses w6 w1.heap.size 0 0 0 0 from Blk.below hs5 hb6)
          have HOWN := Lib.hid (show ∀ g, (Value.slice ra j rcap).ownBlock = some g → ab < g ∧ g < w5.heap.size from fun g e => by
            have h1 := HROW.out.own e
            have h2 := hc5.size
            have h3 := HSZ.out
            omega)
          have HROW6 := Lib.hid (show PRow w6 w4.heap.size (.slice ra j rcap) (ls.take j) from ORow.below (ORow.ch HROW.out hc5 (fun g e e2 => by have := HOWN.out g e; have := HSZ.out; omega)) hb6)
          have HGE := Lib.hid (And.intro hgood hend)
          have HAB5 := Lib.hid (show ab < w5.heap.size from Nat.lt_of_lt_of_le HBk.out.lt hc5.size)
          clear htv hgood hend hs5 hc5 hb6 BP HNX q1 q2 l9
          by_cases hlt : j < ls.length
          · obtain ⟨s, hsj⟩ : ∃ s, ls[j]? = some s := ⟨_, List.getElem?_eq_getElem hlt⟩
            obtain ⟨rfl, rfl⟩ := HGE.out.1 s hsj
            have HUP := lsB_up HGD.out (b := b) (j := j) (s := (pa, pb)) (by rw [HLS.out]; exact hsj)
            rw [HLS.out, HTA.out] at HUP
            have HLE := rless_any (pa, pb) (ta, tb) w6
            rw [HUP] at HLE
            unfold plV at HLE
            simp only at HLE
            have HLE := Lib.hid HLE
            have HLW := lsB_low HGD.out HTR.out.2 (b := b) (j := j) (s := (pa, pb)) (by rw [HLS.out]; exact hsj)
            simp only at HLW
            have HPW := Lib.hid (show wrap64 (pb + 1) = pb + 1 from IntWalk.wrap64_in _ (by omega))
            have HTK := Lib.hid (show ls.take j ++ [(pa, pb)] = ls.take (j + 1) by rw [List.take_add_one, hsj]; rfl)
            have HAT := Lib.hid (show atN ls (j + 1) = (pa, pb + 1) by rw [atN_succ, List.getD_eq_getElem?_getD, hsj]; rfl)
            have HLT := Lib.hid hlt
            have HW2 := Lib.hid (show wrap64 ((j : Int) + 1) = (j : Int) + 1 from IntWalk.wrap64_in _ (by have := HLEN.out; have := HL60.out; omega))
            have hz : ((0 : Int) != 0) = false := rfl
            obtain ⟨z1, z2⟩ := HP6.out.cells
            obtain ⟨z3, z4⟩ := HA6.out.cells
            have l1 := HP6.out.lt
            have l2 := HA6.out.lt
            clear HUP HLW hsj hlt
            go_upto_region 16 with fail
            rw [← hw6]
            clear hw6
            go_wp2_with fail
            clear z1 z2 z3 z4 l1 l2
            refine HLE.out.mono ?_
            rintro e w7 ⟨rfl, hb7⟩
            have HP7 := Lib.hid (HP6.out.below hb7)
            have HA7 := Lib.hid (HA6.out.below hb7)
            have HC7 := Lib.hid (HC6.out.trans (Ch.of_below _ hb7))
            have HS7 := Lib.hid (show Sn.Ses w7 w1.heap.size 0 0 0 0 from Blk.below HS6.out hb7)
            have HROW7 := Lib.hid (show PRow w7 w4.heap.size (.slice ra j rcap) (ls.take j) from ORow.below HROW6.out hb7)
            obtain ⟨z1, z2⟩ := HP7.out.cells
            have l1 := HP7.out.lt
            clear hb7 HLE
            go_upto_region 18 with fail
            go_wp2_with (at_builtin; refine wpList_append_seq rfl (.tmp 81) (.tmp 83) rfl rfl rfl (show PRow _ _ _ _ from ORow.below HROW7.out (below1 _ (.cells #[.int .i64 pa, .int .i64 pb] 39))) (x := (pa, pb)) (Blk.new' (by simp)) (by have := HC7.out.size; simp; omega) (by rw [HLJ.out]; have := HLT.out; have := HLEN.out; have := HL60.out; omega) ?_)
            intro g2 off2 cap2 w9 hown hgrow hg2
            rw [show min j ls.length = j from Nat.min_eq_left HJ.out] at hown ⊢
            have hal := below1 w7 (.cells #[.int .i64 pa, .int .i64 pb] 39)
            have HP9 := Lib.hid ((HP7.out.below hal).ch (Ch.of_grown hgrow) (fun e => by have := HOWN.out _ e.symm; omega))
            have HA9 := Lib.hid ((HA7.out.below hal).ch (Ch.of_grown hgrow) (fun e => by have := HOWN.out _ e.symm; omega))
            have HC9 := Lib.hid ((HC7.out.trans (Ch.of_below _ hal)).step (Ch.of_grown hgrow) (fun i hi e => by have := HOWN.out _ e.symm; have := HSZ.out; omega))
            have HS9 := Lib.hid (show Sn.Ses w9 w1.heap.size 0 0 0 0 from Blk.ch (Blk.below HS7.out hal) (Ch.of_grown hgrow) (fun e => by have := HOWN.out _ e.symm; have := HSZ.out; omega))
            have HROW9 := Lib.hid (show PRow w9 w4.heap.size (.slice (some ⟨g2, off2, none⟩) (j + 1) cap2) (ls.take (j + 1)) by rw [← HTK.out]; exact hown)
            obtain ⟨y1, y2⟩ := HP9.out.cells
            obtain ⟨y3, y4⟩ := HA9.out.cells
            have l3 := HP9.out.lt
            have l4 := HA9.out.lt
            have hne : ¬ (w5.heap.size + 1 = ab) := by have := HAB5.out; omega
            have hne2 : ¬ (ab = w5.heap.size + 1) := fun e => hne e.symm
            have hpw := HPW.out
            clear hal hown hgrow hg2 z1 z2 l1
            go_wp2_with fail
            have hBf := (HA9.out.set 0 (.int .i64 pa)).set 1 (.int .i64 (pb + 1))
            have hSt : Ch (fun k => k = ab) w9 _ := ((Ch.refl (fun k => k = ab) w9).set (p := ⟨ab, 0, none⟩) (.inr rfl) (.int .i64 pa)).set (p := ⟨ab, 1, none⟩) (.inr rfl) (.int .i64 (pb + 1))
            have hCf := HC9.out.step hSt (fun k hk e => .inr e)
            have hRf := ORow.ch HROW9.out hSt (fun g e e2 => by have := (ORow.own HROW9.out e).1; have := HSZ.out; omega)
            have hSf := Blk.ch HS9.out hSt (fun e => by have := HSZ.out; omega)
            go_roundw
            case rel =>
              exact ⟨j + 1, (by first | rfl | (rw [HW2.out]; rfl)), HLT.out, hRf, (by rw [HAT.out]; exact hBf), hSf, hCf⟩
            case measure => first | exact rd_meas HW2.out (Nat.lt_of_lt_of_le HLT.out HLEN.out) | exact rd_meas2 (Nat.lt_of_lt_of_le HLT.out HLEN.out)
          · obtain rfl : j = ls.length := by have := HJ.out; omega
            have hne := HGE.out.2 rfl
            obtain ⟨G7, hA7⟩ := HASK.out _ HC6.out HS6.out
            have HTL2 := rd_tail hA7 b
            rw [HLS.out] at HTL2
            unfold plV at HTL2
            have HTL2 := Lib.hid HTL2
            have hlo := HROW6.out
            rw [List.take_length] at hlo
            have HROWE := Lib.hid hlo
            clear hA7 hlo hlt ht
            go_upto_region 15 with fail
            rw [← hw6]
            clear hw6
            go_wp2_with fail
            refine HTL2.out.mono ?_
            rintro e w7 ⟨⟨p1, p2⟩, code2, rfl, hgood2, hend2, hs7, hc7⟩
            have HROW7 := Lib.hid (show PRow w7 w4.heap.size (.slice ra ls.length rcap) ls from ORow.ch HROWE.out hc7 (fun g e e2 => by have := HOWN.out g e; have := HSZ.out; omega))
            have HC7 := Lib.hid (HC6.out.step hc7 (fun j hj e => .inl e))
            have HA7 := Lib.hid (HA6.out.ch hc7 (fun e => by have := HSZ.out; omega))
            have HS7 := Lib.hid hs7
            simp only at hgood2 ⊢
            have HGE2 := Lib.hid (And.intro hgood2 hend2)
            have hb8 := below1 w7 (.cells #[.int .i64 p1, .int .i64 p2] 39)
            have BT := Blk.new w7 #[.int .i64 p1, .int .i64 p2] 39
            obtain ⟨w8, hw8⟩ : ∃ w8, w8 = w7.alloc (.cells #[.int .i64 p1, .int .i64 p2] 39) := ⟨_, rfl⟩
            rw [← hw8] at hb8 BT
            have HT8 := Lib.hid BT
            have HB8 := Lib.hid hb8
            have HROW8 := Lib.hid (show PRow w8 w4.heap.size (.slice ra ls.length rcap) ls from ORow.below HROW7.out hb8)
            have HC8 := Lib.hid (HC7.out.trans (Ch.of_below _ hb8))
            have HA8 := Lib.hid (HA7.out.below hb8)
            have HS8 := Lib.hid (show Sn.Ses w8 w1.heap.size 0 0 0 0 from Blk.below HS7.out hb8)
            clear hgood2 hend2 hs7 hc7 hb8 BT HTL2 hne
            go_wp2_with fail
            rw [← hw8]
            clear hw8
            have HMEET := Lib.hid (fun (w9 : World) (hb : Below w8.heap.size w8 w9) => show PRow w9 w4.heap.size (.slice ra ls.length rcap) ls ∧ Blk w9 ab #[.int .i64 ta, .int .i64 tb] 39 ∧ Sn.Ses w9 w1.heap.size 0 0 0 0 ∧ Ch (fun k => k = w1.heap.size ∨ k = ab) w4 w9 from ⟨ORow.below HROW8.out hb, HA8.out.below hb, Blk.below HS8.out hb, HC8.out.trans (Ch.of_below _ hb)⟩)
            have HWL := Lib.hid (show wrap64 ((ls.length : Int) - 1) = (ls.length : Int) - 1 from IntWalk.wrap64_in _ (by have := HLEN.out; have := HL60.out; omega))
            have hcase : ls.length = 0 ∨ ∃ n, ls.length = n + 1 := by cases h : ls.length with | zero => exact .inl rfl | succ n => exact .inr ⟨n, rfl⟩
            rcases hcase with hn0 | ⟨n, hn1⟩
            case' inl =>
              have hc2 := HGE2.out.2 hn0
              have hg : decide ((0 : Int) < (ls.length : Int)) = false := decide_eq_false (by omega)
              have hg2 : decide (0 < ls.length) = false := decide_eq_false (by omega)
              clear hn0
              refine wp_region_later (by kernel_rfl) (by kernel_rfl) ?_
              repeat (go_big_quiet_step (fail))
              refine wpQuiet_nil ?_
              rintro _ ⟨y, rfl⟩
              clear hc2 hg hg2 HROW8 HROW7 HROWE HROW6 HOWN HROW
            case' inr =>
              obtain ⟨s, hsn⟩ : ∃ s, ls[n]? = some s := ⟨_, List.getElem?_eq_getElem (by omega)⟩
              obtain ⟨rfl, hps⟩ := HGE2.out.1 n s hn1 hsn
              obtain ⟨g2, off2, cap2, e2, hat2⟩ := ORow.at plO_len HROW8.out hsn
              cases e2
              subst hps
              have d0 : w8.cell? ⟨g2, off2 + n * 2, none⟩ = some (.int .i64 p1) := by simpa using hat2 0 _ rfl
              have d1 : w8.cell? ⟨g2, off2 + n * 2 + 1, none⟩ = some (.int .i64 p2) := by simpa [Nat.add_assoc] using hat2 1 _ rfl
              have md := (cell_spot d0).2
              simp only at md
              have D0 := Lib.hid (fun y : Later w8 => ((y.h.cell (p := ⟨g2, off2 + n * 2, none⟩) md).trans d0))
              have D1 := Lib.hid (fun y : Later w8 => ((y.h.cell (p := ⟨g2, off2 + n * 2 + 1, none⟩) md).trans d1))
              obtain ⟨z1, z2⟩ := HT8.out.laterCells
              have hg : decide ((0 : Int) < (ls.length : Int)) = true := decide_eq_true (by omega)
              have hg2 : decide (0 < ls.length) = true := decide_eq_true (by omega)
              have hw1 : wrap64 ((ls.length : Int) - 1) = (n : Int) := HWL.out.trans (by omega)
              have hw2 : IntKind.i64.wrap ((ls.length : Int) - 1) = (n : Int) := by rw [IntWalk.i64_left]; exact hw1
              have hkb : decide ((n : Int) < (ls.length : Int)) = true := decide_eq_true (by omega)
              have hk0 : decide (0 ≤ (n : Int)) = true := by simp
              have hkb2 : n < ls.length := by omega
              have heq : (p1 == p1 && (p2 == p2)) = true := by simp
              clear hsn hat2 d0 d1 md hn1
              have d0 := D0.out
              have d1 := D1.out
              refine wp_region_later (by kernel_rfl) (by kernel_rfl) ?_
              repeat (go_big_quiet_step (fail))
              refine wpQuiet_nil ?_
              rintro _ ⟨y, rfl⟩
              clear d0 d1 z1 z2 hg hg2 hw1 hw2 hkb hk0 hkb2 heq D0 D1 HROW8 HROW7 HROWE HROW6 HOWN HROW
              obtain ⟨ra, hra⟩ : ∃ r, some (⟨g2, off2, none⟩ : Addr) = r := ⟨_, rfl⟩
              rw [hra] at HMEET ⊢
              clear hra
            all_goals
              obtain ⟨hrow9, hA9, hS9, hC9⟩ := HMEET.out y.w y.h
              obtain ⟨w9, hw9⟩ : ∃ w, w = y.w := ⟨_, rfl⟩
              rw [← hw9] at hrow9 hA9 hS9 hC9 ⊢
              clear hw9
              obtain ⟨q3, q4⟩ := hA9.cells
              have l9 := hA9.lt
              have hSt : Ch (fun k => k = ab) w9 _ := ((Ch.refl (fun k => k = ab) w9).set (p := ⟨ab, 0, none⟩) (.inr rfl) (.int .i64 1152921504606846976)).set (p := ⟨ab, 1, none⟩) (.inr rfl) (.int .i64 0)
              have HBst := Lib.hid (show Blk _ ab #[.int .i64 1152921504606846976, .int .i64 0] 39 from (hA9.set 0 (.int .i64 1152921504606846976)).set 1 (.int .i64 0))
              have HCst := Lib.hid ((Ch.refl (fun k => k = w1.heap.size ∨ k = ab) w9).step hSt (fun k _ e => .inr e))
              have HSst := Lib.hid (Blk.ch hS9 hSt (fun e => by have := HSZ.out; omega))
              have HROW9 := Lib.hid hrow9
              have HC9 := Lib.hid hC9
              have HTOP := Lib.hid (show atP ls ls.length = topP by unfold atP; rw [List.getD_eq_getElem?_getD, List.getElem?_eq_none (Nat.le_refl _)]; rfl)
              clear hSt hrow9 hA9 hS9 hC9
              go_wp2_with fail
              clear l9 q3 q4
              go_loopw [16] (fun v wi => RpIn w9 w1.heap.size ab ls v wi) (fun i _ => (intOf i + 1).toNat)
              case atStart => exact ⟨ls.length, _, rfl, (by first | rfl | exact HWL.out), Nat.le_refl _, (by rw [HTOP.out]; exact HBst.out), HSst.out, HCst.out⟩
              case round =>
                obtain ⟨m, i, rfl, hi, hm, hB, hs, hch⟩ := hrel
                have hC := HC9.out.trans hch
                obtain ⟨G8, hA⟩ := HASK.out _ hC hs
                obtain ⟨⟨xa, xb⟩, hta⟩ : ∃ q, atP ls m = q := ⟨_, rfl⟩
                have HNX := rd_prev hA HTR.out.2 b (m := m) (a := (xa, xb)) (by rw [HLS.out]; exact hm) (by rw [HLS.out]; exact hta)
                rw [HLS.out] at HNX
                unfold plV recV at HNX
                simp only at HNX
                rw [hta] at hB
                have HNX := Lib.hid HNX
                have HBk := Lib.hid hB
                have HC := Lib.hid hC
                have HCH := Lib.hid hch
                have HROWr := Lib.hid (ORow.ch HROW9.out hch (fun g e e2 => by have := (ORow.own HROW9.out e).1; have := HSZ.out; omega))
                obtain ⟨q1, q2⟩ := hB.cells
                have l9 := hB.lt
                clear hA hta hB hch hs hC
                by_cases hlt : 0 < m
                · obtain ⟨k, rfl⟩ : ∃ k, m = k + 1 := ⟨m - 1, by omega⟩
                  obtain rfl : i = (k : Int) := by omega
                  clear hi
                  have ht : decide (0 ≤ (k : Int)) = true := by simp
                  obtain ⟨s, hsk⟩ : ∃ s, ls[k]? = some s := ⟨_, List.getElem?_eq_getElem (by omega)⟩
                  have HSK := Lib.hid hsk
                  have HW3 := Lib.hid (show wrap64 ((k : Int) - 1) = (k : Int) - 1 from IntWalk.wrap64_in _ (by have := HLEN.out; have := HL60.out; omega))
                  have HKL := Lib.hid (show k < ls.length by omega)
                  clear hsk hlt
                  go_upto_region 28 with fail
                  go_wp2_with fail
                  refine HNX.out.mono ?_
                  rintro e w11 ⟨R, tv, code', rfl, htv, hgood, hend, hs11, hc11⟩
                  obtain ⟨⟨pa, pb⟩, ⟨⟨ia, ib⟩, jt, jd⟩⟩ := R
                  obtain ⟨tta, tcap, rfl, _, _⟩ := htv.slice
                  obtain ⟨rfl, hps⟩ := hgood k s rfl HSK.out
                  simp only at hps
                  subst hps
                  simp only
                  obtain ⟨g3, off3, cap3, e3, hat3⟩ := ORow.at plO_len (ORow.ch HROWr.out hc11 (fun g e e2 => by have := (ORow.own HROWr.out e).1; have := HSZ.out; omega)) HSK.out
                  cases e3
                  have d0 : w11.cell? ⟨g3, off3 + k * 2, none⟩ = some (.int .i64 pa) := by simpa using hat3 0 _ rfl
                  have d1 : w11.cell? ⟨g3, off3 + k * 2 + 1, none⟩ = some (.int .i64 pb) := by simpa [Nat.add_assoc] using hat3 1 _ rfl
                  have md := (cell_spot d0).2
                  simp only at md
                  have hb12 := below2 w11 (.cells #[.int .i64 ia, .int .i64 ib, .slice tta jt.length tcap, .string jd] 26) (.cells #[.int .i64 pa, .int .i64 pb] 39)
                  have BP := Blk.new (w11.alloc (.cells #[.int .i64 ia, .int .i64 ib, .slice tta jt.length tcap, .string jd] 26)) #[.int .i64 pa, .int .i64 pb] 39
                  rw [World.size_alloc] at BP
                  have hCH12 := (HCH.out.step hc11 (fun j hj e => .inl e)).trans (Ch.of_below _ hb12)
                  have hA12 := (HBk.out.ch hc11 (fun e => by have := HSZ.out; omega)).below hb12
                  have hS12 := Blk.below hs11 hb12
                  obtain ⟨w12, hw12⟩ : ∃ w12, w12 = (w11.alloc (.cells #[.int .i64 ia, .int .i64 ib, .slice tta jt.length tcap, .string jd] 26)).alloc (.cells #[.int .i64 pa, .int .i64 pb] 39) := ⟨_, rfl⟩
                  rw [← hw12] at hb12 BP hCH12 hA12 hS12
                  have HPr := Lib.hid BP
                  have HCH12 := Lib.hid hCH12
                  have HBk12 := Lib.hid hA12
                  have HS12 := Lib.hid (show Sn.Ses w12 w1.heap.size 0 0 0 0 from hS12)
                  have D0 := Lib.hid (fun y : Later w12 => ((hb12.trans (y.h.mono hb12.size)).cell (p := ⟨g3, off3 + k * 2, none⟩) md).trans d0)
                  have D1 := Lib.hid (fun y : Later w12 => ((hb12.trans (y.h.mono hb12.size)).cell (p := ⟨g3, off3 + k * 2 + 1, none⟩) md).trans d1)
                  have HAT := Lib.hid (show atP ls k = (pa, pb) by unfold atP; rw [List.getD_eq_getElem?_getD, HSK.out]; rfl)
                  clear htv hgood hend hs11 hc11 hat3 d0 d1 md hb12 BP hCH12 hA12 hS12 HNX q1 q2 l9
                  have heq : (pa == pa && (pb == pb)) = true := by simp
                  have hkb : decide ((k : Int) < (ls.length : Int)) = true := by simpa using HKL.out
                  have hkb2 : k < ls.length := HKL.out
                  have hz : ((0 : Int) != 0) = false := rfl
                  go_upto_region 29 with fail
                  rw [← hw12]
                  clear hw12
                  have d0 := D0.out
                  have d1 := D1.out
                  obtain ⟨z1, z2⟩ := HPr.out.laterCells
                  refine wp_region_later (by kernel_rfl) (by kernel_rfl) ?_
                  repeat (go_big_quiet_step (fail))
                  refine wpQuiet_nil ?_
                  rintro _ ⟨y, rfl⟩
                  have HCH13 := Lib.hid (HCH12.out.trans (Ch.of_below _ y.h))
                  have HBk13 := Lib.hid (HBk12.out.below y.h)
                  have HPr13 := Lib.hid (HPr.out.below y.h)
                  have HS13 := Lib.hid (show Sn.Ses y.w w1.heap.size 0 0 0 0 from Blk.below HS12.out y.h)
                  obtain ⟨w13, hw13⟩ : ∃ w13, w13 = y.w := ⟨_, rfl⟩
                  rw [← hw13] at HCH13 HBk13 HPr13 HS13 ⊢
                  clear hw13 d0 d1 z1 z2 D0 D1 HBk12 HPr HCH12 HS12 hkb hkb2 heq
                  obtain ⟨z1, z2⟩ := HPr13.out.cells
                  obtain ⟨z3, z4⟩ := HBk13.out.cells
                  have lp := HPr13.out.lt
                  have lk := HBk13.out.lt
                  go_wp2_with fail
                  have hBf := (HBk13.out.set 0 (.int .i64 pa)).set 1 (.int .i64 pb)
                  have hSt : Ch (fun k => k = ab) w13 _ := ((Ch.refl (fun k => k = ab) w13).set (p := ⟨ab, 0, none⟩) (.inr rfl) (.int .i64 pa)).set (p := ⟨ab, 1, none⟩) (.inr rfl) (.int .i64 pb)
                  have hCf := HCH13.out.step hSt (fun k hk e => .inr e)
                  have hSf := Blk.ch HS13.out hSt (fun e => by have := HSZ.out; omega)
                  go_roundw
                  case rel =>
                    first
                      | exact ⟨k, _, rfl, (by first | rfl | exact HW3.out), Nat.le_of_lt HKL.out, (by rw [HAT.out]; exact hBf), hSf, hCf⟩
                      | (repeat apply Exists.intro
                         exact ⟨⟨k, wrap64 ((k : Int) - 1), rfl, HW3.out, Nat.le_of_lt HKL.out, (by rw [HAT.out]; exact hBf), hSf, hCf⟩, rfl⟩)
                  case measure => first | exact wp_meas HW3.out | exact wp_meas2
                · obtain rfl : m = 0 := by omega
                  obtain rfl : i = -1 := by omega
                  clear hi hm hlt
                  go_upto_region 32 with fail
                  go_wp2_with fail
                  refine HNX.out.mono ?_
                  rintro e w11 ⟨R, tv, code', rfl, htv, hgood, hend, hs11, hc11⟩
                  obtain ⟨⟨pa, pb⟩, ⟨⟨ia, ib⟩, jt, jd⟩⟩ := R
                  obtain ⟨tta, tcap, rfl, _, _⟩ := htv.slice
                  simp only
                  have hne := hend (by first | rfl | trivial)
                  have hb12 := below2 w11 (.cells #[.int .i64 ia, .int .i64 ib, .slice tta jt.length tcap, .string jd] 26) (.cells #[.int .i64 pa, .int .i64 pb] 39)
                  have hF := HFIN.out _ (((HC.out.step hc11 (fun j hj e => .inl e)).trans (Ch.of_below _ hb12)))
                  obtain ⟨w12, hw12⟩ : ∃ w12, w12 = (w11.alloc (.cells #[.int .i64 ia, .int .i64 ib, .slice tta jt.length tcap, .string jd] 26)).alloc (.cells #[.int .i64 pa, .int .i64 pb] 39) := ⟨_, rfl⟩
                  rw [← hw12] at hF
                  have HF := Lib.hid hF
                  clear htv hgood hend hs11 hc11 hb12 hF HNX q1 q2 l9
                  go_upto_region 33 with fail
                  rw [← hw12]
                  clear hw12
                  go_wp2_with fail
                  refine (balive_any _).mono ?_
                  rintro e w13 ⟨rfl, hb13⟩
                  have HB13 := Lib.hid (HF.out.trans (hb13.mono HF.out.size))
                  clear hb13
                  go_wp2_with fail
                  go_ret
                  exact ⟨rfl, HB13.out⟩
/-- BookReads, as its row asks. -/
theorem breads_row {v : Value} (l : List (It × Value)) (b : Int) (w : World) (ro : VRow (fun k => k < w.heap.size) 12 itO w v l) (ok : ∀ p ∈ l, VRow (fun k => k < w.heap.size) 1 intO w p.2 p.1.r.tags ∧ p.1.r.tags.length ≤ 140737488351232 ∧ p.1.r.data.size ≤ 140737488351232) (hl : l.length * 120 ≤ 140737488351232) (_ : (Lit.int .i64 b).wf = true) :
    Calls Try.prog 4 #[v, .int .i64 b] w fun e w' => e = .returned (.bool true) ∧ Below w.heap.size w w' :=
  breads_main l b w (its_of ro ok) (by omega) (fun p hp => (ok p hp).2.1)
end Go.Proofs.Ytpdibjaeopcimaa
