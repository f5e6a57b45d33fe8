/- index's reference: Apply. -/
import Derived.Test.YtpcocmdhdnfjcaaIp2
set_option linter.unusedVariables false
set_option linter.unusedSimpArgs false
namespace Go.Proofs.Ytpcocmdhdnfjcaa
open Go.RowKit

def goodD (L : List It) (i : It) : Bool := (i.kind == 2 && decide (0 ≤ i.tag)) || (i.kind == 1 && rightR i.r && decide (0 < i.seq.1) && decide (0 ≤ i.seq.2) && lessP (lastD L) i.seq)
def RAP (S : Nat → Prop) (l : List (It × Value)) (x : It × Value) (w : World) (G : Bool) (e : Ending) (w' : World) : Prop :=
  ∃ v', e = .returned (.tuple #[docV v', .int .i64 (if G = true then 0 else 1)]) ∧ ItsAt (fun k => S k ∨ w.heap.size ≤ k) w' v' (if G = true then l ++ [x] else l) ∧ Below w.heap.size w w'
theorem rap_no {S : Nat → Prop} {l : List (It × Value)} {x : It × Value} {v : Value} {w w' : World} {G : Bool} (hG : G = false) (h : ItsAt S w v l) (hc : Ch (fun _ => False) w w') :
    RAP S l x w G (.returned (.tuple #[.agg #[v], .int .i64 1])) w' := by
  subst hG
  have h2 := h.ch hc (fun _ _ => id)
  exact ⟨v, rfl, ⟨h2.row.mono fun k _ hk => .inl hk, fun p hp => (h2.tags p hp).mono fun k _ hk => .inl hk⟩, hc.below⟩
theorem rap_yes {S : Nat → Prop} {l : List (It × Value)} {x : It × Value} {v : Value} {g off cap : Nat} {u1 u2 : Value} {w w' : World} {G : Bool} (hG : G = true) (h : ItsAt S w v l) (htv : VRow S 1 intO w x.2 x.1.r.tags) (hc : Ch (fun _ => False) w w') (ho : ORow 12 itO w' 0 (.slice (some ⟨g, off, none⟩) (l.length + 1) cap) (l ++ [x])) (hg : w.heap.size + 1 + 1 < g ∧ w.heap.size + 1 + 1 < w'.heap.size) :
    RAP S l x w G (.returned (.tuple #[.agg #[.slice (some ⟨g, off, none⟩) (l.length + 1) cap], .int .i64 0])) ((w'.setCell ⟨w.heap.size, 0, none⟩ u1).setCell ⟨w.heap.size + 1 + 1, 0, none⟩ u2) := by
  subst hG
  have hc2 : Ch (fun k => k = w.heap.size ∨ k = w.heap.size + 1 + 1) w' ((w'.setCell ⟨w.heap.size, 0, none⟩ u1).setCell ⟨w.heap.size + 1 + 1, 0, none⟩ u2) := ((Ch.refl _ w').set (p := ⟨w.heap.size, 0, none⟩) (.inr (.inl rfl)) u1).set (p := ⟨w.heap.size + 1 + 1, 0, none⟩) (.inr (.inr rfl)) u2
  have hcb : Below w.heap.size w ((w'.setCell ⟨w.heap.size, 0, none⟩ u1).setCell ⟨w.heap.size + 1 + 1, 0, none⟩ u2) := Ch.below (hc.step hc2 (fun k hk e => by omega))
  refine ⟨_, rfl, ⟨?_, fun p hp => ?_⟩, hcb⟩
  · have h1 := VRow.of_own (S := fun k => S k ∨ w.heap.size ≤ k) itO_len ((ho.ch hc2 (fun k e e2 => by simp [Value.ownBlock] at e; omega))) (fun k e => by simp [Value.ownBlock] at e; right; omega)
    simpa using h1
  · rcases List.mem_append.1 hp with hp | hp
    · exact ((h.tags p hp).below hcb).mono fun k _ hk => .inl hk
    · simp at hp
      subst hp
      exact (htv.below hcb).mono fun k _ hk => .inl hk
set_option maxRecDepth 100000 in
set_option maxHeartbeats 16000000 in
theorem rapply_any {S : Nat → Prop} {v : Value} (l : List (It × Value)) (i : It) (tv : Value) (w : World) (h : ItsAt S w v l) (htv : VRow S 1 intO w tv i.r.tags) (hm : l.length ≤ 4000000) (htl : i.r.tags.length ≤ 140737488351232) :
    Calls Try.prog 36 #[docV v, item16V i tv] w (RAP S l (i, tv) w (goodD (its l) i)) := by
  obtain ⟨G, hG⟩ : ∃ b, goodD (its l) i = b := ⟨_, rfl⟩
  have HGD := Lib.hid hG
  have HT1 := htv.one
  have HR0 := Lib.hid (fun w' (hv : VRow S 1 intO w' tv i.r.tags) => rright_any i.r tv w' hv htl)
  have HL0 := Lib.hid (fun w' (hv : ItsAt S w' v l) => rlast_any l w' hv (by omega))
  have HS0 := Lib.hid (fun w' => rless_any (lastD (its l)) i.seq w')
  obtain ⟨rt, hrt⟩ : ∃ b, rightR i.r = b := ⟨_, rfl⟩
  obtain ⟨ls, hls⟩ : ∃ b, lessP (lastD (its l)) i.seq = b := ⟨_, rfl⟩
  obtain ⟨⟨la, lb⟩, hla⟩ : ∃ q, lastD (its l) = q := ⟨_, rfl⟩
  rw [hrt] at HR0
  rw [hls] at HS0
  rw [hla] at HS0 HL0
  obtain ⟨g0, hg0⟩ : ∃ b, (i.kind == 2 && decide (0 ≤ i.tag)) = b := ⟨_, rfl⟩
  obtain ⟨kk, hkk⟩ : ∃ b, (i.kind == 1 && rt && decide (0 < i.seq.1) && decide (0 ≤ i.seq.2) && ls) = b := ⟨_, rfl⟩
  have HGG := Lib.hid (show G = (g0 || kk) by rw [← hG, ← hg0, ← hkk, ← hrt, ← hls]; rfl)
  rw [hG]
  have HI := Lib.hid h
  have HTV := Lib.hid htv
  obtain ⟨kind, ⟨sa, sb⟩, ⟨⟨ia, ib⟩, tags, data⟩, tag, ⟨ua, ub⟩, ⟨fa, fb⟩⟩ := i
  simp only at htv hg0 hkk HR0 HS0 HL0 HTV
  obtain ⟨ta, tcap, rfl, _, _⟩ := htv.slice
  obtain ⟨va, vcap, rfl, _, _⟩ := h.row.slice
  have hb0 : Below w.heap.size w (((w.alloc (.cells #[.slice va l.length vcap] 48)).alloc (.cells #[.int .i64 kind, .int .i64 sa, .int .i64 sb, .int .i64 ia, .int .i64 ib, .slice ta tags.length tcap, .string data, .int .i64 tag, .int .i64 ua, .int .i64 ub, .int .i64 fa, .int .i64 fb] 38)).alloc (.cells #[.slice none 0 0] 48)) := Ch.below (by (repeat (first | with_reducible assumption | with_reducible exact Ch.refl _ _ | with_reducible refine Ch.drew ?_ | with_reducible refine Ch.alloc ?_ _ | (with_reducible refine Ch.set' ?_ ?_; focus (first | (right; rfl; done) | (left; simp; done) | (left; simp; omega) | (left; omega) | (right; simp; done) | (right; simp; omega))))))
  have B1 := ((Blk.new w #[.slice va l.length vcap] 48).alloc (.cells #[.int .i64 kind, .int .i64 sa, .int .i64 sb, .int .i64 ia, .int .i64 ib, .slice ta tags.length tcap, .string data, .int .i64 tag, .int .i64 ua, .int .i64 ub, .int .i64 fa, .int .i64 fb] 38)).alloc (.cells #[.slice none 0 0] 48)
  have B2 := (Blk.new (w.alloc (.cells #[.slice va l.length vcap] 48)) #[.int .i64 kind, .int .i64 sa, .int .i64 sb, .int .i64 ia, .int .i64 ib, .slice ta tags.length tcap, .string data, .int .i64 tag, .int .i64 ua, .int .i64 ub, .int .i64 fa, .int .i64 fb] 38).alloc (.cells #[.slice none 0 0] 48)
  have B3 := (Blk.new ((w.alloc (.cells #[.slice va l.length vcap] 48)).alloc (.cells #[.int .i64 kind, .int .i64 sa, .int .i64 sb, .int .i64 ia, .int .i64 ib, .slice ta tags.length tcap, .string data, .int .i64 tag, .int .i64 ua, .int .i64 ub, .int .i64 fa, .int .i64 fb] 38)) #[.slice none 0 0] 48)
  rw [show (w.alloc (.cells #[.slice va l.length vcap] 48)).heap.size = w.heap.size + 1 by simp] at B2
  rw [show ((w.alloc (.cells #[.slice va l.length vcap] 48)).alloc (.cells #[.int .i64 kind, .int .i64 sa, .int .i64 sb, .int .i64 ia, .int .i64 ib, .slice ta tags.length tcap, .string data, .int .i64 tag, .int .i64 ua, .int .i64 ub, .int .i64 fa, .int .i64 fb] 38)).heap.size = w.heap.size + 1 + 1 by simp] at B3
  obtain ⟨w0, hw0⟩ : ∃ w0, w0 = (((w.alloc (.cells #[.slice va l.length vcap] 48)).alloc (.cells #[.int .i64 kind, .int .i64 sa, .int .i64 sb, .int .i64 ia, .int .i64 ib, .slice ta tags.length tcap, .string data, .int .i64 tag, .int .i64 ua, .int .i64 ub, .int .i64 fa, .int .i64 fb] 38)).alloc (.cells #[.slice none 0 0] 48)) := ⟨_, rfl⟩
  rw [← hw0] at hb0 B1 B2 B3
  have HB := Lib.hid hb0
  have HB1 := Lib.hid B1
  have HB2 := Lib.hid B2
  have HB3 := Lib.hid B3
  obtain ⟨q1, q2⟩ := HB1.out.laterCells
  obtain ⟨q3, q4⟩ := HB2.out.laterCells
  have HRX := Lib.hid (fun y : Later w0 => HR0.out y.w ((HTV.out.below HB.out).below y.h))
  have HLX := Lib.hid (fun y : Later w0 => HL0.out y.w ((HI.out.below HB.out).below y.h))
  have HSX := Lib.hid (fun y : Later w0 => HS0.out y.w)
  unfold recV at HRX
  unfold docV plV at HLX
  unfold plV at HSX
  simp only at HRX HLX HSX
  have HM := Lib.hid hm
  clear h htv hm htl hrt hls hla hb0 B1 B2 B3 HR0 HL0 HS0 hG
  unfold docV item16V
  simp only
  go_enter Try.func36, Try.ntmps36
  go_upto_region 1 with fail
  rw [← hw0]
  clear hw0
  go_cut [6] (fun v6 wx => v6 = .bool g0 ∧ Below w0.heap.size w0 wx)
  case first =>
    obtain ⟨p1, p2⟩ := HB2.out.cells
    by_cases h2 : (kind == 2) = true
    · rw [h2, Bool.true_and] at hg0
      go_wp2_with fail
      go_meet
      exact ⟨rfl, Below.refl _ _⟩
    · simp only [Bool.not_eq_true] at h2
      rw [h2, Bool.false_and] at hg0
      subst hg0
      go_wp2_with fail
      go_meet
      exact ⟨rfl, Below.refl _ _⟩
  case rest =>
    obtain ⟨rfl, hbx⟩ := hcut
    have HB1c := Lib.hid (HB1.out.below hbx)
    have HB2c := Lib.hid (HB2.out.below hbx)
    obtain ⟨p1, p2⟩ := HB1c.out.laterCells
    obtain ⟨p3, p4⟩ := HB2c.out.laterCells
    have HBX := Lib.hid hbx
    have HRC := Lib.hid (fun y : Later wc => HRX.out ⟨y.w, HBX.out.trans (y.h.mono HBX.out.size)⟩)
    have HLC := Lib.hid (fun y : Later wc => HLX.out ⟨y.w, HBX.out.trans (y.h.mono HBX.out.size)⟩)
    have HSC := Lib.hid (fun y : Later wc => HSX.out ⟨y.w, HBX.out.trans (y.h.mono HBX.out.size)⟩)
    have hsc := HB3.out.lt
    clear q1 q2 q3 q4 HRX HLX HSX hg0
    obtain ⟨wA, hwA⟩ : ∃ wA, wA = wc := ⟨_, rfl⟩
    go_wp2_with fail
    go_cut [42] (fun v42 wx => v42 = .bool kk ∧ Below wc.heap.size wc wx)
    case first =>
      by_cases h1 : (kind == 1) = true
      · rw [h1, Bool.true_and] at hkk
        cases rt with
        | false =>
          have hke : kk = false := by rw [← hkk]; simp
          subst hke
          clear hkk
          refine wp_region_later (by kernel_rfl) (by kernel_rfl) ?_
          repeat (go_big_quiet_step (first | (go_at_call 46; exact Calls.later (HRC.out _)) | (go_at_call 47; exact Calls.later (HLC.out _)) | (go_at_call 39; exact Calls.later (HSC.out _))))
          refine wpQuiet_nil ?_
          rintro _ ⟨y, rfl⟩
          go_wp2_with fail
          go_meet
          exact ⟨rfl, y.h⟩
        | true =>
          rw [Bool.true_and] at hkk
          by_cases h3 : decide (0 < sa) = true
          · rw [h3, Bool.true_and] at hkk
            by_cases h4 : decide (0 ≤ sb) = true
            · rw [h4, Bool.true_and] at hkk
              subst hkk
              refine wp_region_later (by kernel_rfl) (by kernel_rfl) ?_
              repeat (go_big_quiet_step (first | (go_at_call 46; exact Calls.later (HRC.out _)) | (go_at_call 47; exact Calls.later (HLC.out _)) | (go_at_call 39; exact Calls.later (HSC.out _))))
              refine wpQuiet_nil ?_
              rintro _ ⟨y, rfl⟩
              go_wp2_with fail
              go_meet
              exact ⟨rfl, y.h⟩
            · simp only [Bool.not_eq_true] at h4
              have hke : kk = false := by rw [← hkk, h4]; simp
              subst hke
              clear hkk
              refine wp_region_later (by kernel_rfl) (by kernel_rfl) ?_
              repeat (go_big_quiet_step (first | (go_at_call 46; exact Calls.later (HRC.out _)) | (go_at_call 47; exact Calls.later (HLC.out _)) | (go_at_call 39; exact Calls.later (HSC.out _))))
              refine wpQuiet_nil ?_
              rintro _ ⟨y, rfl⟩
              go_wp2_with fail
              go_meet
              exact ⟨rfl, y.h⟩
          · simp only [Bool.not_eq_true] at h3
            have hke : kk = false := by rw [← hkk, h3]; simp
            subst hke
            clear hkk
            refine wp_region_later (by kernel_rfl) (by kernel_rfl) ?_
            repeat (go_big_quiet_step (first | (go_at_call 46; exact Calls.later (HRC.out _)) | (go_at_call 47; exact Calls.later (HLC.out _)) | (go_at_call 39; exact Calls.later (HSC.out _))))
            refine wpQuiet_nil ?_
            rintro _ ⟨y, rfl⟩
            go_wp2_with fail
            go_meet
            exact ⟨rfl, y.h⟩
      · simp only [Bool.not_eq_true] at h1
        have hke : kk = false := by rw [← hkk, h1]; simp
        subst hke
        clear hkk
        refine wp_region_later (by kernel_rfl) (by kernel_rfl) ?_
        repeat (go_big_quiet_step (first | (go_at_call 46; exact Calls.later (HRC.out _)) | (go_at_call 47; exact Calls.later (HLC.out _)) | (go_at_call 39; exact Calls.later (HSC.out _))))
        refine wpQuiet_nil ?_
        rintro _ ⟨y, rfl⟩
        go_wp2_with fail
        go_meet
        exact ⟨rfl, y.h⟩
    case rest =>
      obtain ⟨rfl, hby⟩ := hcut
      have HBC := Lib.hid (HBX.out.trans (hby.mono HBX.out.size))
      have HBD := Lib.hid (HB.out.trans (HBC.out.mono HB.out.size))
      have HSC0 := Lib.hid (show w.heap.size + 1 + 1 < wc.heap.size from Nat.lt_of_lt_of_le hsc HBC.out.size)
      clear p1 p2 p3 p4 hkk hby HRC HLC HSC hwA HBX HB1c HB2c hsc wA
      obtain ⟨p1, p2⟩ := (HB1.out.below HBC.out).cells
      obtain ⟨p3, p4⟩ := (HB2.out.below HBC.out).cells
      obtain ⟨p5, p6⟩ := (HB3.out.below HBC.out).cells
      have e1 := (HB1.out.below HBC.out).lt
      have e2 := (HB2.out.below HBC.out).lt
      have e3 := (HB3.out.below HBC.out).lt
      obtain ⟨i0, hinfo, hz0, hz1, hz2⟩ := info_parts infoItem
      cases kk with
      | true =>
        have HGT := Lib.hid (show G = true by rw [HGG.out]; simp)
        go_wp2_with (at_builtin; refine wpList_append_all itO_len (by decide) rfl (.tmp 46) (.tmp 48) 22 rfl (fun p hp u hu => itO_one p (HI.out.tags p hp).one u hu) Try.underlying22 hinfo hz0 hz1 hz2 rfl rfl rfl (by (repeat (first | (with_reducible refine Blk.new' ?_; first | rfl | (simp; done) | (simp; omega)) | with_reducible refine Blk.drew ?_ | with_reducible refine Blk.alloc ?_ _))) (((HI.out.below HBD.out).row).below (below1 _ (.cells #[] 38))) (by have := HM.out; unfold maxLen; omega) (by have := HM.out; omega) ?_)
        intro g1 off1 cap1 w1 hown1 hc1 hg1
        have hcD : Ch (fun _ => False) wc w1 := ((Ch.refl (fun _ => False) wc).alloc (.cells #[] 38)).step hc1 (fun k hk e => by omega)
        have hg1b : wc.heap.size ≤ g1 := by rcases hg1 with e | e <;> (try simp at e) <;> omega
        have HB4 := Lib.hid (HB1.out.below (HBC.out.trans (hcD.below.mono HBC.out.size)))
        have HB5 := Lib.hid (HB2.out.below (HBC.out.trans (hcD.below.mono HBC.out.size)))
        have HB6 := Lib.hid (HB3.out.below (HBC.out.trans (hcD.below.mono HBC.out.size)))
        have HBE := Lib.hid (HBD.out.trans (hcD.below.mono HBD.out.size))
        have HOW := Lib.hid hown1
        have HG1 := Lib.hid hg1b
        have HSE := Lib.hid hcD.size
        obtain ⟨z1, z2⟩ := HB4.out.cells
        obtain ⟨z3, z4⟩ := HB5.out.cells
        have l4 := HB4.out.lt
        have l5 := HB5.out.lt
        clear hown1 hc1 hg1 hcD hg1b p1 p2 p3 p4 p5 p6
        go_wp2_with (at_builtin; refine wpList_append_item rfl (.tmp 50) (.tmp 52) rfl rfl rfl (x := (⟨kind, (sa, sb), ⟨(ia, ib), tags, data⟩, tag, (ua, ub), (fa, fb)⟩, .slice ta tags.length tcap)) rfl (HOW.out.below (below1 _ (.cells #[.int .i64 kind, .int .i64 sa, .int .i64 sb, .int .i64 ia, .int .i64 ib, .slice ta tags.length tcap, .string data, .int .i64 tag, .int .i64 ua, .int .i64 ub, .int .i64 fa, .int .i64 fb] 38))) (Blk.new' (by simp)) (Nat.zero_le _) (by have := HM.out; omega) ?_)
        intro g2 off2 cap2 w2 hown2 hgrow2 hg2
        have hc2 : Ch (fun k => k = g1) w1 w2 := (((Ch.refl (fun k => k = g1) w1).alloc (.cells #[.int .i64 kind, .int .i64 sa, .int .i64 sb, .int .i64 ia, .int .i64 ib, .slice ta tags.length tcap, .string data, .int .i64 tag, .int .i64 ua, .int .i64 ub, .int .i64 fa, .int .i64 fb] 38))).step (Ch.of_grown hgrow2) (fun k hk e => by simp [Value.ownBlock] at e; exact e)
        have hs12 := HBD.out.size
        have hsw := HB.out.size
        have hs1 := HBE.out.size
        have hg1c := HG1.out
        have hg2b : wc.heap.size ≤ g2 := by
          rcases hg2 with e | e
          · simp [Value.ownBlock] at e
            omega
          · have := HSE.out
            try simp at e
            omega
        have HB7 := Lib.hid (HB4.out.ch hc2 (by have := HSC0.out; omega))
        have HB8 := Lib.hid (HB6.out.ch hc2 (by have := HSC0.out; omega))
        have HCF := Lib.hid ((Ch.of_below (fun _ => False) HBE.out).step hc2 (fun k hk e => by have := HSC0.out; omega))
        have HOF := Lib.hid hown2
        have HG2 := Lib.hid hg2b
        obtain ⟨y1, y2⟩ := HB7.out.cells
        obtain ⟨y3, y4⟩ := HB8.out.cells
        have l7 := HB7.out.lt
        have l8 := HB8.out.lt
        have hn1 : ¬ (w.heap.size = w.heap.size + 1 + 1) := by omega
        clear hown2 hgrow2 hg2 hc2 hg2b z1 z2 z3 z4 l4 l5
        go_wp2_with fail
        exact bodyPost_ret (v := .tuple #[.agg #[.slice (some ⟨g2, off2, none⟩) (l.length + 1) cap2], .int .i64 0]) (by simp [results, Try.results36, go_sem, (show Blk _ (w.heap.size + 1 + 1) #[.slice (some ⟨g2, off2, none⟩) (l.length + 1) cap2] 48 from (HB8.out.far (p := ⟨w.heap.size, 0, none⟩) (by simp; omega) (.slice (some ⟨g2, off2, none⟩) (l.length + 1) cap2)).set 0 (.slice (some ⟨g2, off2, none⟩) (l.length + 1) cap2)).cells.1]) rfl (rap_yes HGT.out HI.out HTV.out HCF.out HOF.out (by have := HG2.out; have := HSC0.out; omega))
      | false =>
        cases g0 with
        | true =>
          have HGT := Lib.hid (show G = true by rw [HGG.out]; rfl)
          go_wp2_with (at_builtin; refine wpList_append_all itO_len (by decide) rfl (.tmp 46) (.tmp 48) 22 rfl (fun p hp u hu => itO_one p (HI.out.tags p hp).one u hu) Try.underlying22 hinfo hz0 hz1 hz2 rfl rfl rfl (by (repeat (first | (with_reducible refine Blk.new' ?_; first | rfl | (simp; done) | (simp; omega)) | with_reducible refine Blk.drew ?_ | with_reducible refine Blk.alloc ?_ _))) (((HI.out.below HBD.out).row).below (below1 _ (.cells #[] 38))) (by have := HM.out; unfold maxLen; omega) (by have := HM.out; omega) ?_)
          intro g1 off1 cap1 w1 hown1 hc1 hg1
          have hcD : Ch (fun _ => False) wc w1 := ((Ch.refl (fun _ => False) wc).alloc (.cells #[] 38)).step hc1 (fun k hk e => by omega)
          have hg1b : wc.heap.size ≤ g1 := by rcases hg1 with e | e <;> (try simp at e) <;> omega
          have HB4 := Lib.hid (HB1.out.below (HBC.out.trans (hcD.below.mono HBC.out.size)))
          have HB5 := Lib.hid (HB2.out.below (HBC.out.trans (hcD.below.mono HBC.out.size)))
          have HB6 := Lib.hid (HB3.out.below (HBC.out.trans (hcD.below.mono HBC.out.size)))
          have HBE := Lib.hid (HBD.out.trans (hcD.below.mono HBD.out.size))
          have HOW := Lib.hid hown1
          have HG1 := Lib.hid hg1b
          have HSE := Lib.hid hcD.size
          obtain ⟨z1, z2⟩ := HB4.out.cells
          obtain ⟨z3, z4⟩ := HB5.out.cells
          have l4 := HB4.out.lt
          have l5 := HB5.out.lt
          clear hown1 hc1 hg1 hcD hg1b p1 p2 p3 p4 p5 p6
          go_wp2_with (at_builtin; refine wpList_append_item rfl (.tmp 50) (.tmp 52) rfl rfl rfl (x := (⟨kind, (sa, sb), ⟨(ia, ib), tags, data⟩, tag, (ua, ub), (fa, fb)⟩, .slice ta tags.length tcap)) rfl (HOW.out.below (below1 _ (.cells #[.int .i64 kind, .int .i64 sa, .int .i64 sb, .int .i64 ia, .int .i64 ib, .slice ta tags.length tcap, .string data, .int .i64 tag, .int .i64 ua, .int .i64 ub, .int .i64 fa, .int .i64 fb] 38))) (Blk.new' (by simp)) (Nat.zero_le _) (by have := HM.out; omega) ?_)
          intro g2 off2 cap2 w2 hown2 hgrow2 hg2
          have hc2 : Ch (fun k => k = g1) w1 w2 := (((Ch.refl (fun k => k = g1) w1).alloc (.cells #[.int .i64 kind, .int .i64 sa, .int .i64 sb, .int .i64 ia, .int .i64 ib, .slice ta tags.length tcap, .string data, .int .i64 tag, .int .i64 ua, .int .i64 ub, .int .i64 fa, .int .i64 fb] 38))).step (Ch.of_grown hgrow2) (fun k hk e => by simp [Value.ownBlock] at e; exact e)
          have hs12 := HBD.out.size
          have hsw := HB.out.size
          have hs1 := HBE.out.size
          have hg1c := HG1.out
          have hg2b : wc.heap.size ≤ g2 := by
            rcases hg2 with e | e
            · simp [Value.ownBlock] at e
              omega
            · have := HSE.out
              try simp at e
              omega
          have HB7 := Lib.hid (HB4.out.ch hc2 (by have := HSC0.out; omega))
          have HB8 := Lib.hid (HB6.out.ch hc2 (by have := HSC0.out; omega))
          have HCF := Lib.hid ((Ch.of_below (fun _ => False) HBE.out).step hc2 (fun k hk e => by have := HSC0.out; omega))
          have HOF := Lib.hid hown2
          have HG2 := Lib.hid hg2b
          obtain ⟨y1, y2⟩ := HB7.out.cells
          obtain ⟨y3, y4⟩ := HB8.out.cells
          have l7 := HB7.out.lt
          have l8 := HB8.out.lt
          have hn1 : ¬ (w.heap.size = w.heap.size + 1 + 1) := by omega
          clear hown2 hgrow2 hg2 hc2 hg2b z1 z2 z3 z4 l4 l5
          go_wp2_with fail
          exact bodyPost_ret (v := .tuple #[.agg #[.slice (some ⟨g2, off2, none⟩) (l.length + 1) cap2], .int .i64 0]) (by simp [results, Try.results36, go_sem, (show Blk _ (w.heap.size + 1 + 1) #[.slice (some ⟨g2, off2, none⟩) (l.length + 1) cap2] 48 from (HB8.out.far (p := ⟨w.heap.size, 0, none⟩) (by simp; omega) (.slice (some ⟨g2, off2, none⟩) (l.length + 1) cap2)).set 0 (.slice (some ⟨g2, off2, none⟩) (l.length + 1) cap2)).cells.1]) rfl (rap_yes HGT.out HI.out HTV.out HCF.out HOF.out (by have := HG2.out; have := HSC0.out; omega))
        | false =>
          have HGT := Lib.hid (show G = false by rw [HGG.out]; rfl)
          go_wp2_with fail
          exact bodyPost_ret (v := .tuple #[.agg #[.slice va l.length vcap], .int .i64 1]) (by simp [results, Try.results36, go_sem, (show Blk _ (w.heap.size + 1 + 1) #[.slice va l.length vcap] 48 from (HB3.out.below HBC.out).set 0 (.slice va l.length vcap)).cells.1]) rfl (rap_no HGT.out HI.out ((Ch.of_below (fun _ => False) HBD.out).set (p := ⟨w.heap.size + 1 + 1, 0, none⟩) (.inl (by simp; omega)) _))
end Go.Proofs.Ytpcocmdhdnfjcaa
