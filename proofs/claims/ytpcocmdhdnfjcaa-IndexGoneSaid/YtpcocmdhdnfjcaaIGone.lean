/- IndexGone: the walk. -/
import Derived.Test.YtpcocmdhdnfjcaaIn
import Derived.Test.YtpcocmdhdnfjcaaIFl
set_option linter.unusedVariables false
set_option linter.unusedSimpArgs false
namespace Go.Proofs.Ytpcocmdhdnfjcaa
open Go.RowKit

theorem PRow.v {S : Nat → Prop} {w : World} {base : Nat} {v : Value} {xs : List Pl} (h : PRow w base v xs) (hs : ∀ g, v.ownBlock = some g → S g) : VRow S 2 plO w v xs := VRow.of_own plO_len h hs
theorem Run.grown {w : World} {G S : Nat → Prop} {w1 w2 : World} {x : Nat} {st : XSt} (h : Run w G w1 x st) (hc : Ch S w1 w2) (hS : ∀ k, S k → G k ∧ w.heap.size ≤ k) : ∃ G', Run w G' w2 x st ∧ (∀ k, G k → G' k) ∧ (∀ k, w1.heap.size ≤ k → k < w2.heap.size → G' k) :=
  ⟨_, ⟨h.ix.ch hc (fun k e => (hS k e).1), h.good, fun k hk => .inl (h.old k hk), Ch.below ((Ch.of_below (fun _ => False) h.ch).step hc (fun k hk e => by have := (hS k e).2; omega))⟩, fun _ e => .inl e, fun _ h1 h2 => .inr ⟨h1, h2⟩⟩
/-- IndexGone's outer loop. -/
def GoIn (w : World) (x : Nat) (tag : Int) (n : Nat) (v6 v30 : Value) (wi : World) : Prop :=
  ∃ (k : Nat) (st : XSt) (gone : List Pl) (gv : Value) (G : Nat → Prop), gv = v6 ∧ v30 = .int .i64 (k : Int) ∧ k ≤ n ∧ Run w G wi x st ∧ lowX st ∧ st.rows.length ≤ k ∧ st.applied ≤ k ∧ GoneInv st tag gone ∧ gone.length ≤ k * 60 ∧ PRow wi w.heap.size gv gone ∧ (∀ g, gv.ownBlock = some g → G g)
/-- The loop over what counts now. -/
def NowIn (wA : World) (n : Nat) (v : Value) (wi : World) : Prop := ∃ k : Nat, v = .int .i64 (k : Int) ∧ k ≤ n ∧ Below wA.heap.size wA wi
/-- The loop over what counted. -/
def WasIn (w wB : World) (x : Nat) (st : XSt) (tag : Int) (D : Nat → Prop) (m n : Nat) (v6 v60 : Value) (wi : World) : Prop :=
  ∃ (k : Nat) (gone : List Pl) (gv : Value) (G : Nat → Prop), gv = v6 ∧ v60 = .int .i64 (k : Int) ∧ k ≤ n ∧ Run w G wi x st ∧ GoneInv st tag gone ∧ gone.length ≤ m + k ∧ PRow wi w.heap.size gv gone ∧ (∀ g, gv.ownBlock = some g → G g ∧ ¬ D g) ∧ Ch (fun j => ¬ D j) wB wi

set_option maxRecDepth 100000 in
set_option maxHeartbeats 16000000 in
theorem gone_main {v : Value} (l : List (It × Value)) (tag : Int) (w : World) (hv : ItsAt (fun k => k < w.heap.size) w v l) (hm : l.length ≤ 140737488351232) (htl : ∀ p ∈ l, p.1.r.tags.length ≤ 140737488351232) :
    Calls Try.prog 3 #[v, .int .i64 tag] w fun e w' => e = .returned (.bool true) ∧ Below w.heap.size w w' := by
  have HV := Lib.hid hv
  have HFW := Lib.hid (fun w' (hb : Below w.heap.size w w') => few_any l w' (hv.below hb) hm)
  obtain ⟨la, lcap, rfl, _, _⟩ := hv.row.slice
  have HN := Lib.hid (xnew_any w)
  have HTLs := Lib.hid htl
  clear hv hm htl
  go_enter Try.func3, Try.ntmps3
  go_wp2_with fail
  refine HN.out.mono ?_
  intro e w1 hpost
  obtain ⟨x, G0, rfl, R1⟩ := Run.new hpost
  have HR1 := Lib.hid R1
  clear HN hpost R1
  go_wp2_with fail
  refine (HFW.out w1 HR1.out.ch).mono ?_
  rintro e w2 ⟨b, rfl, hfew, hb2⟩
  have HR2 := Lib.hid (HR1.out.below hb2)
  clear hb2 HR1 HFW
  cases b with
  | false =>
    go_wp2_with fail
    refine (alive_any _).mono ?_
    rintro e w3 ⟨rfl, hb3⟩
    go_wp2_with fail
    go_ret
    exact ⟨rfl, (HR2.out.below hb3).ch⟩
  | true =>
    have HFEW := Lib.hid (hfew rfl)
    clear hfew
    go_wp2_with fail
    go_loopw [6, 30] (fun v6 v30 wi => GoIn w x tag l.length v6 v30 wi) (fun _ i _ => l.length - (intOf i).toNat)
    case atStart => exact ⟨0, xst0, [], _, G0, rfl, rfl, Nat.zero_le _, HR2.out, low0, Nat.le_refl _, Nat.le_refl _, (fun s h => by cases h), Nat.le_refl _, ORow.nil _ _, (fun g e => by simp [Value.ownBlock] at e)⟩
    case round =>
      obtain ⟨k, st, gone, gv, G, rfl, rfl, hk, R, hlow, hr, ha, hgi, hgl, hgr, hgG⟩ := hrel
      have HR := Lib.hid R
      have HLO := Lib.hid hlow
      have HRL := Lib.hid (And.intro hr ha)
      have HGI := Lib.hid hgi
      have HGL := Lib.hid hgl
      have HGR := Lib.hid hgr
      have HGG := Lib.hid hgG
      have hVr := HV.out.below R.ch
      clear R hlow hr ha hgi hgl hgr hgG HR2
      by_cases hlt : k < l.length
      · have ht : decide ((k : Int) < (l.length : Int)) = true := by simpa using hlt
        obtain ⟨p, hp⟩ : ∃ p, l[k]? = some p := ⟨_, List.getElem?_eq_getElem hlt⟩
        obtain ⟨g, off, cap, e, hat⟩ := hVr.row.at hp
        cases e
        have htg := hVr.tags p (List.mem_of_getElem? hp)
        have HP := Lib.hid (HFEW.out.2 p (List.mem_of_getElem? hp))
        have HTL := Lib.hid (HTLs.out p (List.mem_of_getElem? hp))
        obtain ⟨⟨kind, ⟨sa, sb⟩, ⟨⟨ia, ib⟩, tags, data⟩, it, ⟨ua, ub⟩, ⟨fa, fb⟩⟩, tv⟩ := p
        simp only at htg
        have HTG := Lib.hid htg
        obtain ⟨ta, tcap, e2, _, _⟩ := htg.slice
        subst e2
        have c0 : wr.cell? ⟨g, off + k * 12, none⟩ = some (.int .i64 kind) := by simpa using hat 0 _ rfl
        have c1 : wr.cell? ⟨g, off + k * 12 + 1, none⟩ = some (.int .i64 sa) := by simpa [Nat.add_assoc] using hat 1 _ rfl
        have c2 : wr.cell? ⟨g, off + k * 12 + 2, none⟩ = some (.int .i64 sb) := by simpa [Nat.add_assoc] using hat 2 _ rfl
        have c3 : wr.cell? ⟨g, off + k * 12 + 3, none⟩ = some (.int .i64 ia) := by simpa [Nat.add_assoc] using hat 3 _ rfl
        have c4 : wr.cell? ⟨g, off + k * 12 + 4, none⟩ = some (.int .i64 ib) := by simpa [Nat.add_assoc] using hat 4 _ rfl
        have c5 : wr.cell? ⟨g, off + k * 12 + 5, none⟩ = some (.slice ta tags.length tcap) := by simpa [Nat.add_assoc] using hat 5 _ rfl
        have c6 : wr.cell? ⟨g, off + k * 12 + 6, none⟩ = some (.string data) := by simpa [Nat.add_assoc] using hat 6 _ rfl
        have c7 : wr.cell? ⟨g, off + k * 12 + 7, none⟩ = some (.int .i64 it) := by simpa [Nat.add_assoc] using hat 7 _ rfl
        have c8 : wr.cell? ⟨g, off + k * 12 + 8, none⟩ = some (.int .i64 ua) := by simpa [Nat.add_assoc] using hat 8 _ rfl
        have c9 : wr.cell? ⟨g, off + k * 12 + 9, none⟩ = some (.int .i64 ub) := by simpa [Nat.add_assoc] using hat 9 _ rfl
        have c10 : wr.cell? ⟨g, off + k * 12 + 10, none⟩ = some (.int .i64 fa) := by simpa [Nat.add_assoc] using hat 10 _ rfl
        have c11 : wr.cell? ⟨g, off + k * 12 + 11, none⟩ = some (.int .i64 fb) := by simpa [Nat.add_assoc] using hat 11 _ rfl
        have m0 := (cell_spot c0).2
        simp only at m0
        have HWS := Lib.hid (show w.heap.size ≤ wr.heap.size from HR.out.ch.size)
        have HLT := Lib.hid hlt
        have h60 := HFEW.out.1
        have HW2 := Lib.hid (show wrap64 ((k : Int) + 1) = (k : Int) + 1 from IntWalk.wrap64_in _ (by omega))
        have HK60 := Lib.hid (show k < 60 by omega)
        have HGRb := Lib.hid (fun b hb => HGR.out.own (g := b) hb)
        -- the item's box
        have hbI := below1 wr (.cells #[.int .i64 kind, .int .i64 sa, .int .i64 sb, .int .i64 ia, .int .i64 ib, .slice ta tags.length tcap, .string data, .int .i64 it, .int .i64 ua, .int .i64 ub, .int .i64 fa, .int .i64 fb] 38)
        have HBI := Lib.hid (Blk.new wr #[.int .i64 kind, .int .i64 sa, .int .i64 sb, .int .i64 ia, .int .i64 ib, .slice ta tags.length tcap, .string data, .int .i64 it, .int .i64 ua, .int .i64 ub, .int .i64 fa, .int .i64 fb] 38)
        obtain ⟨G1, R1, hG1, hn1⟩ := HR.out.grow hbI
        have HGI1 := Lib.hid (hn1 wr.heap.size (Nat.le_refl _) (by simp))
        have HGG1 := Lib.hid (fun b hb => hG1 b (HGG.out b hb))
        have HGR1 := Lib.hid (HGR.out.below hbI)
        have HTG1 := Lib.hid (HTG.out.below hbI)
        have HRA := Lib.hid (xrange_any tag (0, 0) topP _ R1.ix R1.good (by have := HRL.out.1; omega))
        rw [range_all R1.good HLO.out tag] at HRA
        unfold plV topP at HRA
        simp only at HRA
        have HR1 := Lib.hid R1
        have hsI : (wr.alloc (.cells #[.int .i64 kind, .int .i64 sa, .int .i64 sb, .int .i64 ia, .int .i64 ib, .slice ta tags.length tcap, .string data, .int .i64 it, .int .i64 ua, .int .i64 ub, .int .i64 fa, .int .i64 fb] 38)).heap.size = wr.heap.size + 1 := by simp
        have HSI := Lib.hid hsI
        clear hat hVr hp htg hbI hG1 hn1 R1 hsI h60 HR HGR HTG HGG hlt
        go_wp2_with fail
        refine HRA.out.mono ?_
        rintro e w3 ⟨wv, rfl, hwv, hb3⟩
        obtain ⟨wa, wcap, hwve, _, _⟩ := hwv.slice
        subst hwve
        have hwlen : (allX st tag).length ≤ 60 := Nat.le_trans (all_len st tag) (by have := HRL.out.1; have := HK60.out; omega)
        -- behind the first Range
        obtain ⟨G3, R3, hG3, hn3⟩ := HR1.out.grow hb3
        have HI3 := Lib.hid (HBI.out.below hb3)
        have HGI3 := Lib.hid (hG3 _ HGI1.out)
        have HGG3 := Lib.hid (fun b hb => hG3 b (HGG1.out b hb))
        have HGR3 := Lib.hid (HGR1.out.below hb3)
        have HTG3 := Lib.hid (HTG1.out.below hb3)
        have HWV3 := Lib.hid hwv
        have hs3 := hb3.size
        rw [HSI.out] at hs3
        have HWG3 := Lib.hid (fun b hb => hn3 b (hwv.own (g := b) hb).1 (hwv.own (g := b) hb).2)
        have HWB := Lib.hid (fun b hb => (hwv.own (g := b) hb).1)
        rw [HSI.out] at HWB
        obtain ⟨q1, q2⟩ := HI3.out.cells
        have l3 := HI3.out.lt
        have HOWN := Lib.hid (own_any ⟨kind, (sa, sb), ⟨(ia, ib), tags, data⟩, it, (ua, ub), (fa, fb)⟩ (.slice ta tags.length tcap) w3 HTG3.out)
        unfold item16V itemV at HOWN
        simp only at HOWN
        have HR3 := Lib.hid R3
        clear hb3 R3 hG3 hn3 HBI HR1 HGI1 HGG1 HGR1 HTG1 HRA hwv
        go_wp2_with fail
        refine HOWN.out.mono ?_
        rintro e w4 ⟨rfl, hb4⟩
        have HR4 := Lib.hid (HR3.out.below hb4)
        have HI4 := Lib.hid (HI3.out.below hb4)
        have HGR4 := Lib.hid (HGR3.out.below hb4)
        have HTG4 := Lib.hid (HTG3.out.below hb4)
        have HWV4 := Lib.hid (HWV3.out.below hb4)
        obtain ⟨r, hr⟩ : ∃ r, applyX st ⟨kind, (sa, sb), ⟨(ia, ib), tags, data⟩, it, (ua, ub), (fa, fb)⟩ = r := ⟨_, rfl⟩
        have HA := Lib.hid (HR4.out.apply ⟨kind, (sa, sb), ⟨(ia, ib), tags, data⟩, it, (ua, ub), (fa, fb)⟩ (.slice ta tags.length tcap) HTG4.out (fun k hk => HR4.out.old k hk) (by have := HRL.out; have := HK60.out; omega) (by have := HRL.out; have := HK60.out; omega) HTL.out hr)
        have hlowr := low_apply HLO.out HP.out
        have hlenr := apply_len st ⟨kind, (sa, sb), ⟨(ia, ib), tags, data⟩, it, (ua, ub), (fa, fb)⟩
        have hgir := gone_apply HGI.out ⟨kind, (sa, sb), ⟨(ia, ib), tags, data⟩, it, (ua, ub), (fa, fb)⟩
        have hmore := fun (gone : List Pl) (h : GoneInv (applyX st ⟨kind, (sa, sb), ⟨(ia, ib), tags, data⟩, it, (ua, ub), (fa, fb)⟩).1 tag gone) (s : Pl) (hs : s ∈ allX st tag) (hn : s ∉ allX (applyX st ⟨kind, (sa, sb), ⟨(ia, ib), tags, data⟩, it, (ua, ub), (fa, fb)⟩).1 tag) => gone_more HR4.out.good ⟨kind, (sa, sb), ⟨(ia, ib), tags, data⟩, it, (ua, ub), (fa, fb)⟩ h hs hn
        have htrim := fun (s : Pl) (hs : s ∈ allX st tag) (hn : s ∉ allX (applyX st ⟨kind, (sa, sb), ⟨(ia, ib), tags, data⟩, it, (ua, ub), (fa, fb)⟩).1 tag) => gone_trim (i := ⟨kind, (sa, sb), ⟨(ia, ib), tags, data⟩, it, (ua, ub), (fa, fb)⟩) hs hn
        rw [hr] at hmore htrim
        simp only at htrim
        have HMORE := Lib.hid hmore
        have HTRIM := Lib.hid htrim
        rw [hr] at hlowr hlenr hgir
        have HLOR := Lib.hid hlowr
        have HLENR := Lib.hid hlenr
        have HGIR := Lib.hid hgir
        unfold itemV at HA
        simp only at HA
        have hs34 := hb4.size
        clear q1 q2 hb4 HR3 HI3 HGR3 HTG3 HWV3 HOWN hr hlowr hlenr hgir hmore htrim
        go_wp2_with fail
        refine HA.out.mono ?_
        rintro e w5 ⟨rfl, R5, c5⟩
        have HI5 := Lib.hid (HI4.out.ch c5 (fun h => h HGI3.out))
        have HGR5 := Lib.hid (show PRow w5 w.heap.size gv gone from HGR4.out.ch c5 (fun b hb h => h (HGG3.out b hb)))
        have HWV5 := Lib.hid (HWV4.out.ch c5 (fun b hb h => h (HWG3.out b hb)))
        have HRB := Lib.hid (xrange_any tag (0, 0) topP _ R5.ix R5.good (by have := HLENR.out.1; have := HRL.out.1; have := HK60.out; omega))
        rw [range_all R5.good HLOR.out tag] at HRB
        unfold plV topP at HRB
        simp only at HRB
        have HR5 := Lib.hid R5
        have HS35 := Lib.hid (show w3.heap.size ≤ w5.heap.size from Nat.le_trans hs34 c5.size)
        clear c5 R5 HR4 HI4 HGR4 HTG4 HWV4 HA hs34
        go_wp2_with fail
        refine HRB.out.mono ?_
        rintro e w6 ⟨nv, rfl, hnv, hb6⟩
        obtain ⟨na, ncap, hnve, _, _⟩ := hnv.slice
        subst hnve
        have hnlen : (allX r.1 tag).length ≤ 61 := Nat.le_trans (all_len r.1 tag) (by have := HLENR.out.1; have := HRL.out.1; have := HK60.out; omega)
        have hs5 := HGR5.out
        have hs56 := hb6.size
        have hs35 : w3.heap.size ≤ w5.heap.size := HS35.out
        obtain ⟨D, hD⟩ : ∃ D : Nat → Prop, D = fun j => j < w.heap.size ∨ j = wr.heap.size ∨ (Value.slice wa (allX st tag).length wcap).ownBlock = some j ∨ (Value.slice na (allX r.1 tag).length ncap).ownBlock = some j := ⟨_, rfl⟩
        have HD1 := Lib.hid (show ∀ j, j < w.heap.size → D j from fun j h => by rw [hD]; exact .inl h)
        have HDI := Lib.hid (show D wr.heap.size by rw [hD]; exact .inr (.inl rfl))
        have HDW := Lib.hid (show ∀ j, (Value.slice wa (allX st tag).length wcap).ownBlock = some j → D j from fun j h => by rw [hD]; exact .inr (.inr (.inl h)))
        have HDN := Lib.hid (show ∀ j, (Value.slice na (allX r.1 tag).length ncap).ownBlock = some j → D j from fun j h => by rw [hD]; exact .inr (.inr (.inr h)))
        have HWV6 := Lib.hid (HWV5.out.below hb6)
        have HNV6 := Lib.hid hnv
        have HI6 := Lib.hid (HI5.out.below hb6)
        have HGR6 := Lib.hid (HGR5.out.below hb6)
        have hwsz : w.heap.size ≤ wr.heap.size := HWS.out
        have HDlt := Lib.hid (show ∀ j, D j → j < w6.heap.size from fun j h => by
          rw [hD] at h
          have hl := HI6.out.lt
          rcases h with h | h | h | h
          · omega
          · omega
          · exact (HWV6.out.own h).2
          · exact (HNV6.out.own h).2)
        have HDG := Lib.hid (show ∀ b, gv.ownBlock = some b → ¬ D b from fun b hb h => by
          have h1 := HGRb.out b hb
          rw [hD] at h
          rcases h with h | h | h | h
          · omega
          · omega
          · have := HWB.out b h; omega
          · have := (HNV6.out.own h).1; have := HI5.out.lt; omega)
        clear hD hs5 hs56 hs35 hwsz
        have hold := HR5.out.old
        obtain ⟨G6, R6, hG6, hn6⟩ := HR5.out.grow hb6
        have HR6 := Lib.hid R6
        have HG6 := Lib.hid hG6
        have HGv6 := Lib.hid (fun b hb => hG6 b (HGG3.out b hb))
        have HNOT := Lib.hid (show ∀ s, s ∈ allX r.1 tag → gone.contains s = false from fun s hs => by
          rw [← Bool.not_eq_true, List.contains_iff_exists_mem_beq]
          rintro ⟨p, hp, e⟩
          rw [beq_iff_eq] at e
          rw [e] at hs
          exact (HGIR.out p hp).2 hs)
        have hglen : gone.length ≤ 3600 := by have := HGL.out; have := HK60.out; omega
        have HGLEN := Lib.hid hglen
        have HNLEN := Lib.hid hnlen
        have HWLEN := Lib.hid hwlen
        clear hb6 R6 hG6 hn6 hold hnv hglen hnlen hwlen HR5 HI5 HGR5 HWV5 HRB
        go_wp2_with fail
        go_loopw [50] (fun v wi => NowIn w6 (allX r.1 tag).length v wi) (fun i _ => (allX r.1 tag).length - (intOf i).toNat)
        case atStart => exact ⟨0, rfl, Nat.zero_le _, Below.refl _ _⟩
        case round =>
          obtain ⟨j, rfl, hj, hbr⟩ := hrel
          have HBR := Lib.hid hbr
          clear hbr
          by_cases hlt : j < (allX r.1 tag).length
          · have ht : decide ((j : Int) < ((allX r.1 tag).length : Int)) = true := by simpa using hlt
            obtain ⟨s, hs⟩ : ∃ s, (allX r.1 tag)[j]? = some s := ⟨_, List.getElem?_eq_getElem hlt⟩
            obtain ⟨g2, off2, cap2, e2, hat2⟩ := (HNV6.out.below HBR.out).at plO_len hs
            cases e2
            have HNS := Lib.hid (HNOT.out s (List.mem_of_getElem? hs))
            obtain ⟨s1, s2⟩ := s
            have d0 : wr.cell? ⟨g2, off2 + j * 2, none⟩ = some (.int .i64 s1) := by simpa using hat2 0 _ rfl
            have d1 : wr.cell? ⟨g2, off2 + j * 2 + 1, none⟩ = some (.int .i64 s2) := by simpa [Nat.add_assoc] using hat2 1 _ rfl
            have md := (cell_spot d0).2
            simp only at md
            have hbs := below1 wr (.cells #[.int .i64 s1, .int .i64 s2] 29)
            have HIN := Lib.hid (in_any gone (s1, s2) (wr.alloc (.cells #[.int .i64 s1, .int .i64 s2] 29)) (VRow.of_own (S := fun _ => True) plO_len (HGR6.out.below (HBR.out.trans (hbs.mono HBR.out.size))) (fun _ _ => trivial)) (by have := HGLEN.out; omega))
            rw [HNS.out] at HIN
            unfold plV at HIN
            simp only at HIN
            have HW3 := Lib.hid (show wrap64 ((j : Int) + 1) = (j : Int) + 1 from IntWalk.wrap64_in _ (by have := HNLEN.out; omega))
            have HLT3 := Lib.hid hlt
            have HBS := Lib.hid (HBR.out.trans (hbs.mono HBR.out.size))
            clear hat2 hs hbs
            go_wp2_with fail
            refine HIN.out.mono ?_
            rintro e w7 ⟨rfl, hb7⟩
            have HB7 := Lib.hid (HBS.out.trans (hb7.mono HBS.out.size))
            clear hb7 HIN d0 d1
            go_wp2_with fail
            go_roundw
            case rel => exact ⟨j + 1, (by first | rfl | (rw [HW3.out]; rfl)), HLT3.out, HB7.out⟩
            case measure => first | exact rt_meas HW3.out HLT3.out | exact rt_meas2 HLT3.out
          · have ht : decide ((j : Int) < ((allX r.1 tag).length : Int)) = false := by simpa using hlt
            have ht2 : decide ((allX r.1 tag).length ≤ j) = true := by simp; omega
            have ht3 : decide (j < (allX r.1 tag).length) = false := by simpa using hlt
            have HRB7 := Lib.hid (HR6.out.below HBR.out)
            have HWVB := Lib.hid (HWV6.out.below HBR.out)
            have HNVB := Lib.hid (HNV6.out.below HBR.out)
            have HIB := Lib.hid (HI6.out.below HBR.out)
            have HGRB := Lib.hid (HGR6.out.below HBR.out)
            have HDltB := Lib.hid (fun j hj => Nat.lt_of_lt_of_le (HDlt.out j hj) HBR.out.size)
            clear hlt HBR HR6 HWV6 HNV6 HI6 HGR6 HDlt HNOT
            go_wp2_with fail
            obtain ⟨wB, hwB⟩ : ∃ wB, wr = wB := ⟨_, rfl⟩
            rw [hwB] at HRB7 HWVB HNVB HIB HGRB HDltB ⊢
            clear hwB
            go_loopw [6, 60] (fun v6 v60 wi => WasIn w wB x r.1 tag D gone.length (allX st tag).length v6 v60 wi) (fun _ i _ => (allX st tag).length - (intOf i).toNat)
            case atStart => exact ⟨0, gone, gv, G6, rfl, rfl, Nat.zero_le _, HRB7.out, HGIR.out, Nat.le_refl _, HGRB.out, fun b hb => ⟨HGv6.out b hb, HDG.out b hb⟩, Ch.refl _ _⟩
            case round =>
              obtain ⟨j3, gone3, gv3, G3', rfl, rfl, hj3, hR3, hgi3, hgl3, hgr3, hgg3, hC3⟩ := hrel
              have HRr := Lib.hid hR3
              have HGIr := Lib.hid hgi3
              have HGLr := Lib.hid hgl3
              have HGRr := Lib.hid hgr3
              have HGGr := Lib.hid hgg3
              have HCr := Lib.hid hC3
              have HWVr := Lib.hid (show PRow _ _ _ _ from HWVB.out.ch hC3 (fun b hb h => h (HDW.out b hb)))
              have HNVr := Lib.hid (show PRow _ _ _ _ from HNVB.out.ch hC3 (fun b hb h => h (HDN.out b hb)))
              have HIr := Lib.hid (HIB.out.ch hC3 (fun h => h HDI.out))
              clear hR3 hgi3 hgl3 hgr3 hgg3 hC3
              by_cases hlt : j3 < (allX st tag).length
              · have ht : decide ((j3 : Int) < ((allX st tag).length : Int)) = true := by simpa using hlt
                obtain ⟨s, hs⟩ : ∃ s, (allX st tag)[j3]? = some s := ⟨_, List.getElem?_eq_getElem hlt⟩
                obtain ⟨g2, off2, cap2, e2, hat2⟩ := HWVr.out.at plO_len hs
                cases e2
                have HSM := Lib.hid (List.mem_of_getElem? hs)
                obtain ⟨s1, s2⟩ := s
                have d0 : wr.cell? ⟨g2, off2 + j3 * 2, none⟩ = some (.int .i64 s1) := by simpa using hat2 0 _ rfl
                have d1 : wr.cell? ⟨g2, off2 + j3 * 2 + 1, none⟩ = some (.int .i64 s2) := by simpa [Nat.add_assoc] using hat2 1 _ rfl
                have md := (cell_spot d0).2
                simp only at md
                have hbs := below1 wr (.cells #[.int .i64 s1, .int .i64 s2] 29)
                have HBs := Lib.hid (Blk.new wr #[.int .i64 s1, .int .i64 s2] 29)
                have HIN := Lib.hid (in_any (allX r.1 tag) (s1, s2) (wr.alloc (.cells #[.int .i64 s1, .int .i64 s2] 29)) (VRow.of_own (S := fun _ => True) plO_len (HNVr.out.below hbs) (fun _ _ => trivial)) (by have := HNLEN.out; omega))
                obtain ⟨cn, hcn⟩ : ∃ cn, (allX r.1 tag).contains (s1, s2) = cn := ⟨_, rfl⟩
                rw [hcn] at HIN
                have HCN := Lib.hid hcn
                unfold plV at HIN
                simp only at HIN
                have HW3 := Lib.hid (show wrap64 ((j3 : Int) + 1) = (j3 : Int) + 1 from IntWalk.wrap64_in _ (by have := HWLEN.out; omega))
                have HLT3 := Lib.hid hlt
                have HbS := Lib.hid hbs
                clear hat2 hs hbs hcn
                go_wp2_with fail
                refine HIN.out.mono ?_
                rintro e w8 ⟨rfl, hb8⟩
                have hb18 := HbS.out.trans (hb8.mono HbS.out.size)
                have HB18 := Lib.hid hb18
                have HRs := Lib.hid (HRr.out.below hb18)
                have HGRs := Lib.hid (show PRow _ _ _ _ from HGRr.out.below hb18)
                have HIs := Lib.hid (HIr.out.below hb18)
                have HBs8 := Lib.hid (HBs.out.below hb8)
                have HCs := Lib.hid (HCr.out.call hb18)
                clear hb18 hb8 HIN d0 d1
                cases cn with
                | true =>
                  go_wp2_with fail
                  go_roundw
                  case rel => exact ⟨j3 + 1, gone3, _, G3', rfl, (by first | rfl | (rw [HW3.out]; rfl)), HLT3.out, HRs.out, HGIr.out, (by have := HGLr.out; omega), HGRs.out, HGGr.out, HCs.out⟩
                  case measure => first | exact rt_meas HW3.out HLT3.out | exact rt_meas2 HLT3.out
                | false =>
                  have HNM := Lib.hid (show (s1, s2) ∉ allX r.1 tag from fun h => by
                    have h1 := HCN.out
                    rw [← Bool.not_eq_true, List.contains_iff_exists_mem_beq] at h1
                    exact h1 ⟨_, h, by simp⟩)
                  have htr := HTRIM.out (s1, s2) HSM.out HNM.out
                  obtain ⟨q1, q2⟩ := HBs8.out.cells
                  have ls := HBs8.out.lt
                  have HGM := Lib.hid (HMORE.out gone3 HGIr.out (s1, s2) HSM.out HNM.out)
                  have HKK := Lib.hid htr
                  clear htr
                  go_wp2_with (at_builtin; refine wpList_append_seq rfl (.tmp 67) (.tmp 69) rfl rfl rfl (show PRow _ _ _ _ from HGRs.out.below (below1 _ (.cells #[.int .i64 s1, .int .i64 s2] 29))) (x := (s1, s2)) (Blk.new' (by simp)) (by have := HRs.out.ch.size; simp; omega) (by have := HGLr.out; have := HGLEN.out; have := HWLEN.out; have := HLT3.out; omega) ?_)
                  intro g5 off5 cap5 w9 hown5 hgrow5 hg5
                  have hC9 : Ch (fun k => gv3.ownBlock = some k) w8 w9 := (((Ch.refl (fun _ => False) w8).alloc (.cells #[.int .i64 s1, .int .i64 s2] 29)).mono (S' := fun k => gv3.ownBlock = some k) (fun k e => e.elim)).step (Ch.of_grown hgrow5) (fun k hk e => e.symm)
                  obtain ⟨G5, R5, hG5, hn5⟩ := HRs.out.grown hC9 (fun k e => ⟨(HGGr.out k e).1, (HGRs.out.own e).1⟩)
                  have HR9 := Lib.hid R5
                  have HI9 := Lib.hid (HIs.out.ch hC9 (fun h => (HGGr.out _ h).2 HDI.out))
                  have hlt5 := (hown5.own (g := g5) rfl).2
                  have hnd : ∀ k, w8.heap.size ≤ k → ¬ D k := fun k hk h => by
                    have h1 := HDltB.out k h
                    have h2 := HCs.out.size
                    omega
                  have HGG9 := Lib.hid (show ∀ b, (Value.slice (some ⟨g5, off5, none⟩) (gone3.length + 1) cap5).ownBlock = some b → G5 b ∧ ¬ D b from fun b hb => by
                    have e5 : g5 = b := by simpa [Value.ownBlock] using hb
                    subst e5
                    rcases hg5 with e | e
                    · exact ⟨hG5 _ (HGGr.out _ e).1, (HGGr.out _ e).2⟩
                    · have e' : w8.heap.size ≤ g5 := by first | omega | (simp at e; omega)
                      exact ⟨hn5 _ e' hlt5, hnd _ e'⟩)
                  have HGR9 := Lib.hid (show PRow _ _ _ _ from hown5)
                  have HC9 := Lib.hid (HCs.out.step hC9 (fun k hk e => (HGGr.out k e).2))
                  clear q1 q2 hC9 R5 hG5 hn5 hlt5 hnd hown5 hgrow5 hg5
                  obtain ⟨q1, q2⟩ := HI9.out.cells
                  have li := HI9.out.lt
                  have hk2 : (kind != 2) = false := by rw [HKK.out.1]; rfl
                  by_cases hit : it = tag
                  · have hit2 : (it != tag) = false := by rw [hit]; simp
                    have HIT := Lib.hid hit
                    clear hit
                    go_wp2_with fail
                    go_roundw
                    case rel => exact ⟨j3 + 1, gone3 ++ [(s1, s2)], _, G5, rfl, (by first | rfl | (rw [HW3.out]; rfl)), HLT3.out, HR9.out, HGM.out, (by rw [List.length_append]; simp; have := HGLr.out; omega), HGR9.out, HGG9.out, HC9.out⟩
                    case measure => first | exact rt_meas HW3.out HLT3.out | exact rt_meas2 HLT3.out
                  · have hit2 : (it != tag) = true := by simpa using hit
                    have hit3 : (it != 0) = false := by
                      rcases HKK.out.2 with h | h
                      · exact absurd h hit
                      · rw [h]; rfl
                    clear hit
                    go_wp2_with fail
                    go_roundw
                    case rel => exact ⟨j3 + 1, gone3 ++ [(s1, s2)], _, G5, rfl, (by first | rfl | (rw [HW3.out]; rfl)), HLT3.out, HR9.out, HGM.out, (by rw [List.length_append]; simp; have := HGLr.out; omega), HGR9.out, HGG9.out, HC9.out⟩
                    case measure => first | exact rt_meas HW3.out HLT3.out | exact rt_meas2 HLT3.out
              · have ht : decide ((j3 : Int) < ((allX st tag).length : Int)) = false := by simpa using hlt
                have ht2 : decide ((allX st tag).length ≤ j3) = true := by simp; omega
                have ht3 : decide (j3 < (allX st tag).length) = false := by simpa using hlt
                go_wp2_with fail
                go_roundw
                case rel => exact ⟨k + 1, r.1, gone3, _, G3', rfl, (by first | rfl | (rw [HW2.out]; rfl)), HLT.out, HRr.out, HLOR.out, (by have := HLENR.out; have := HRL.out; omega), (by have := HLENR.out; have := HRL.out; omega), HGIr.out, (by have := HGLr.out; have := HGL.out; have := HWLEN.out; omega), HGRr.out, fun b hb => (HGGr.out b hb).1⟩
                case measure => first | exact rt_meas HW2.out HLT.out | exact rt_meas2 HLT.out
      · have ht : decide ((k : Int) < (l.length : Int)) = false := by simpa using hlt
        have ht2 : decide (l.length ≤ k) = true := by simp; omega
        have ht3 : decide (k < l.length) = false := by simpa using hlt
        go_wp2_with fail
        refine (alive_any _).mono ?_
        rintro e w3 ⟨rfl, hb3⟩
        go_wp2_with fail
        go_ret
        exact ⟨rfl, (HR.out.below hb3).ch⟩
/-- IndexGone, as its row asks. -/
theorem gone_row {v : Value} (l : List (It × Value)) (tag : Int) (w : World) (ro : VRow (fun k => k < w.heap.size) 12 itO w v l) (ok : ∀ p ∈ l, VRow (fun k => k < w.heap.size) 1 intO w p.2 p.1.r.tags ∧ p.1.r.tags.length ≤ 140737488351232 ∧ p.1.r.data.size ≤ 140737488351232) (hl : l.length * 120 ≤ 140737488351232) (_ : (Lit.int .i64 tag).wf = true) :
    Calls Try.prog 3 #[v, .int .i64 tag] w fun e w' => e = .returned (.bool true) ∧ Below w.heap.size w w' :=
  gone_main l tag w (its_of ro ok) (by omega) (fun p hp => (ok p hp).2.1)
end Go.Proofs.Ytpcocmdhdnfjcaa
