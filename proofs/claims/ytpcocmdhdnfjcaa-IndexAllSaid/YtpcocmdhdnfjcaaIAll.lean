/- IndexAll: the walk. -/
import Derived.Test.YtpcocmdhdnfjcaaStage
import Derived.Test.YtpcocmdhdnfjcaaIzr
import Derived.Test.YtpcocmdhdnfjcaaIzp
import Derived.Test.YtpcocmdhdnfjcaaIw
import Derived.Test.YtpcocmdhdnfjcaaIsm
import Derived.Test.YtpcocmdhdnfjcaaIIds
import Derived.Test.YtpcocmdhdnfjcaaFlatA
import Derived.Test.YtpcocmdhdnfjcaaIFl
set_option linter.unusedVariables false
set_option linter.unusedSimpArgs false
namespace Go.Proofs.Ytpcocmdhdnfjcaa
open Go.RowKit

theorem sameR_self (r : Rc) : sameR r r = true := sameR_iff.2 rfl
/-- A record and a place are stored, each into a block that was there. -/
theorem stored {w : World} {b1 b2 T1 T2 : Nat} {c0 c1 c2 c3 d0 d1 : Value} (h1 : Blk w b1 #[c0, c1, c2, c3] T1) (h2 : Blk w b2 #[d0, d1] T2) (hn : b1 ≠ b2) (a0 a1 a2 a3 e0 e1 : Value) :
    ∃ w', w' = (((((w.setCell ⟨b1, 0, none⟩ a0).setCell ⟨b1, 1, none⟩ a1).setCell ⟨b1, 2, none⟩ a2).setCell ⟨b1, 3, none⟩ a3).setCell ⟨b2, 0, none⟩ e0).setCell ⟨b2, 1, none⟩ e1 ∧
      Blk w' b1 #[a0, a1, a2, a3] T1 ∧ Blk w' b2 #[e0, e1] T2 ∧ Ch (fun k => k = b1 ∨ k = b2) w w' ∧ w'.heap.size = w.heap.size :=
  ⟨_, rfl, (((((h1.set 0 a0).set 1 a1).set 2 a2).set 3 a3).far (p := ⟨b2, 0, none⟩) hn e0).far (p := ⟨b2, 1, none⟩) hn e1,
    (((((h2.far (p := ⟨b1, 0, none⟩) hn.symm a0).far (p := ⟨b1, 1, none⟩) hn.symm a1).far (p := ⟨b1, 2, none⟩) hn.symm a2).far (p := ⟨b1, 3, none⟩) hn.symm a3).set 0 e0).set 1 e1,
    ((((((Ch.refl _ w).set (p := ⟨b1, 0, none⟩) (.inr (.inl rfl)) a0).set (p := ⟨b1, 1, none⟩) (.inr (.inl rfl)) a1).set (p := ⟨b1, 2, none⟩) (.inr (.inl rfl)) a2).set (p := ⟨b1, 3, none⟩) (.inr (.inl rfl)) a3).set (p := ⟨b2, 0, none⟩) (.inr (.inr rfl)) e0).set (p := ⟨b2, 1, none⟩) (.inr (.inr rfl)) e1, by simp [World.setCell]⟩
theorem stored2 {w : World} {b2 T2 : Nat} {d0 d1 : Value} (h2 : Blk w b2 #[d0, d1] T2) (e0 e1 : Value) :
    ∃ w', w' = (w.setCell ⟨b2, 0, none⟩ e0).setCell ⟨b2, 1, none⟩ e1 ∧ Blk w' b2 #[e0, e1] T2 ∧ Ch (fun k => k = b2) w w' ∧ w'.heap.size = w.heap.size :=
  ⟨_, rfl, (h2.set 0 e0).set 1 e1, ((Ch.refl (fun k => k = b2) w).set (p := ⟨b2, 0, none⟩) (.inr rfl) e0).set (p := ⟨b2, 1, none⟩) (.inr rfl) e1, by simp [World.setCell]⟩
theorem count_rows {L : List (It × Value)} {st : XSt} (h : Same (its L) st) (t : Int) : countX st t = (countL L t).map fun p => rowI p.1 := by
  rw [← count_same h, ← count_its, its, List.map_map]
  rfl
theorem tail_none {L : List (It × Value)} {st : XSt} (h : Same (its L) st) {t : Int} (hn : (countL L t).length = 0) : tailX st t = none := by
  unfold tailX at?
  rw [count_rows h, List.length_map, hn]
  rfl
theorem tail_some {L : List (It × Value)} {st : XSt} (h : Same (its L) st) {t : Int} {k : Nat} (hn : (countL L t).length = k + 1) {p : It × Value} (hp : (countL L t)[k]? = some p) : tailX st t = some (rowI p.1) := by
  unfold tailX at?
  rw [count_rows h, List.length_map, hn, if_neg (by omega), show (((k + 1 : Nat) : Int) - 1).toNat = k by omega, List.getElem?_map, hp]
  rfl
theorem last_k {k : Nat} (h : k ≤ 60) : wrap64 (((k : Int) + 1) - 1) = (k : Int) ∧ wrap64 (k : Int) = (k : Int) ∧ ((k : Int) + 1 - 1) = (k : Int) ∧ decide ((0 : Int) < (k : Int) + 1) = true ∧ decide (0 < k + 1) = true ∧ decide (k < k + 1) = true :=
  ⟨by rw [Int.add_sub_cancel]; exact IntWalk.wrap64_in _ (by omega), IntWalk.wrap64_in _ (by omega), by omega, decide_eq_true (by omega), decide_eq_true (by omega), decide_eq_true (by omega)⟩
theorem at_mem {rl : List Rw} {k : Int} {r : Rw} (h : at? rl k = some r) : r ∈ rl := by
  unfold at? at h
  split at h
  · cases h
  · exact List.mem_of_getElem? h
theorem opt_small {st : XSt} (hg : GoodX st) {t : Int} {k : Int} {o : Option Rw} (h : at? (countX st t) k = o) : (o.getD rw0).r.tags.length ≤ 8 := by
  cases o with
  | none => exact Nat.zero_le _
  | some r => exact good_small hg t r (at_mem h)
theorem tags_small {st : XSt} (hg : GoodX st) (t : Int) {a : Pl} {o : Option Rw} (h : nextX st t a = o) : (o.getD rw0).r.tags.length ≤ 8 := opt_small hg h
theorem tags_smallp {st : XSt} (hg : GoodX st) (t : Int) {a : Pl} {o : Option Rw} (h : prevX st t a = o) : (o.getD rw0).r.tags.length ≤ 8 := opt_small hg h
attribute [local go_sem high] eqId eqSeq
set_option maxRecDepth 100000 in
set_option maxHeartbeats 16000000 in
theorem all_main {v : Value} (l : List (It × Value)) (tag : Int) (p q : Pl) (w : World) (hv : ItsAt (fun k => k < w.heap.size) w v l) (hm : l.length ≤ 140737488351232) (htl : ∀ p ∈ l, p.1.r.tags.length ≤ 140737488351232) :
    Calls Try.prog 7 #[v, .int .i64 tag, .agg #[.int .i64 p.1, .int .i64 p.2, .int .i64 q.1, .int .i64 q.2]] w fun e w' => e = .returned (.bool true) ∧ Below w.heap.size w w' := by
  obtain ⟨pa, pb⟩ := p
  obtain ⟨qa, qb⟩ := q
  have hb0 := below1 w (.cells #[.int .i64 pa, .int .i64 pb, .int .i64 qa, .int .i64 qb] 59)
  have B0 := Blk.new w #[.int .i64 pa, .int .i64 pb, .int .i64 qa, .int .i64 qb] 59
  obtain ⟨w0, hw0⟩ : ∃ w0, w0 = w.alloc (.cells #[.int .i64 pa, .int .i64 pb, .int .i64 qa, .int .i64 qb] 59) := ⟨_, rfl⟩
  rw [← hw0] at hb0 B0
  have hv0 := (hv.below hb0).old
  have HFW := Lib.hid (few_any l w0 hv0 hm)
  have HFI := Lib.hid (fun w' (hb : Below w0.heap.size w0 w') (h60 : l.length ≤ 60) (hlo : ∀ p ∈ l, lowI p.1) => filled_any l w' ((hv0.below hb).old) h60 hlo htl)
  have HB0 := Lib.hid B0
  have HW0 := Lib.hid hb0
  obtain ⟨la, lcap, rfl, _, _⟩ := hv.row.slice
  clear hv hv0 hm hb0 B0
  have HTL := Lib.hid htl
  clear htl
  go_enter Try.func7, Try.ntmps7
  go_wp2_with fail
  rw [← hw0]
  clear hw0
  refine HFW.out.mono ?_
  rintro e w1 ⟨b, rfl, hfew, hb1⟩
  have HB1 := Lib.hid hb1
  clear hb1 HFW
  cases b with
  | false =>
    go_wp2_with fail
    refine (alive_any _).mono ?_
    rintro e w3 ⟨rfl, hb3⟩
    go_wp2_with fail
    go_ret
    exact ⟨rfl, HW0.out.trans ((HB1.out.trans (hb3.mono HB1.out.size)).mono HW0.out.size)⟩
  | true =>
    have HF := Lib.hid (HFI.out w1 HB1.out (hfew rfl).1 (hfew rfl).2)
    have HM := Lib.hid (hfew rfl).1
    clear hfew HFI
    go_wp2_with fail
    refine HF.out.mono ?_
    rintro e w2 ⟨x, rv, G, st, L, rfl, hR, hI, hS, hlo, hrl, hLl, hsub⟩
    obtain ⟨ra, rcap, rfl, _, _⟩ := hI.row.slice
    unfold docV
    have HX := Lib.hid (show ∀ w', Below w2.heap.size w2 w' → Ix G w' x st from fun w' hb => hR.ix.below' hb)
    have HI := Lib.hid (show ∀ w', Below w2.heap.size w2 w' → ItsAt (fun k => k < w2.heap.size) w' _ L from fun w' hb => hI.old.below hb)
    have HG := Lib.hid hR.good
    have HRL := Lib.hid (show st.rows.length ≤ 60 by have := HM.out; omega)
    have HLL := Lib.hid (show L.length ≤ 60 by have := HM.out; omega)
    have HTL2 := Lib.hid (fun p hp => HTL.out p (hsub p hp))
    have HB2 := Lib.hid (HB1.out.trans (hR.ch.mono HB1.out.size))
    have HS := Lib.hid hS
    have HBx2 := Lib.hid (HB0.out.below HB2.out)
    clear hR hI hS hlo hrl hLl hsub HF
    -- the document's index in its box
    have hbs := below1 w2 (.cells #[.slice ra L.length rcap] 48)
    have HD3 := Lib.hid (Blk.new w2 #[.slice ra L.length rcap] 48)
    obtain ⟨o, ho⟩ : ∃ o, nextX st tag (pa, pb) = o := ⟨_, rfl⟩
    have HO := Lib.hid ho
    have HN3 := xnext_any tag (pa, pb) _ (HX.out _ hbs) HG.out (by have := HRL.out; omega)
    rw [ho] at HN3
    unfold plV at HN3
    have HN3 := Lib.hid HN3
    obtain ⟨w3, hw3⟩ : ∃ w3, w3 = w2.alloc (.cells #[.slice ra L.length rcap] 48) := ⟨_, rfl⟩
    rw [← hw3] at HN3 HD3 hbs
    have HB3 := Lib.hid hbs
    have HBx3 := Lib.hid (HBx2.out.below hbs)
    obtain ⟨q1, q2⟩ := HBx2.out.cells
    have l1 := HBx2.out.lt
    clear hbs ho
    go_wp2_with fail
    rw [← hw3]
    clear hw3 q1 q2 l1
    refine HN3.out.mono ?_
    rintro e w4 ⟨ta, rfl, hva, hb4⟩
    obtain ⟨aa, acap, hae, _, _⟩ := hva.slice
    subst hae
    obtain ⟨r, hr⟩ : ∃ r, r = o.getD rw0 := ⟨_, rfl⟩
    obtain ⟨bo, hbo⟩ : ∃ b, b = o.isSome := ⟨_, rfl⟩
    rw [← hr] at hva ⊢
    rw [← hbo]
    have HR := Lib.hid hr
    have HBO := Lib.hid hbo
    have hts : r.r.tags.length ≤ 8 := by
      rw [hr]
      exact tags_small HG.out tag HO.out
    obtain ⟨⟨sa, sb⟩, ⟨⟨ia, ib⟩, tags, data⟩⟩ := r
    have HTS := Lib.hid (show tags.length ≤ 140737488351232 from Nat.le_trans hts (by decide))
    clear hts
    unfold recV plV
    simp only at hva ⊢
    have hba := below2 w4 (.cells #[.int .i64 ia, .int .i64 ib, .slice aa tags.length acap, .string data] 34) (.cells #[.int .i64 sa, .int .i64 sb] 29)
    have hb4a := hb4.trans (hba.mono hb4.size)
    have hR := ((Blk.new w4 #[.int .i64 ia, .int .i64 ib, .slice aa tags.length acap, .string data] 34).alloc (.cells #[.int .i64 sa, .int .i64 sb] 29))
    have hSq := Blk.new (w4.alloc (.cells #[.int .i64 ia, .int .i64 ib, .slice aa tags.length acap, .string data] 34)) #[.int .i64 sa, .int .i64 sb] 29
    rw [show (w4.alloc (.cells #[.int .i64 ia, .int .i64 ib, .slice aa tags.length acap, .string data] 34)).heap.size = w4.heap.size + 1 by simp] at hSq
    have HB5 := Lib.hid (HB3.out.trans (hb4a.mono HB3.out.size))
    have HBx5 := Lib.hid (HBx3.out.below hb4a)
    have HD5 := Lib.hid (HD3.out.below hb4a)
    have HVA := Lib.hid (hva.below hba)
    have HN5 := rnext_any L tag (pa, pb) _ (HI.out _ HB5.out) HLL.out HTL2.out
    obtain ⟨w5, hw5⟩ : ∃ w5, w5 = (w4.alloc (.cells #[.int .i64 ia, .int .i64 ib, .slice aa tags.length acap, .string data] 34)).alloc (.cells #[.int .i64 sa, .int .i64 sb] 29) := ⟨_, rfl⟩
    rw [← hw5] at HB5 HBx5 HD5 HVA HN5 hR hSq
    rw [next_same HS.out HG.out, HO.out] at HN5
    unfold plV docV at HN5
    have HN5 := Lib.hid HN5
    have HR5 := Lib.hid hR
    have HSq5 := Lib.hid hSq
    have hsz5 : w5.heap.size = w4.heap.size + 2 := by rw [hw5]; simp
    have HSZ5 := Lib.hid hsz5
    have HB45 := Lib.hid (show w2.heap.size < w4.heap.size ∧ w.heap.size < w4.heap.size from ⟨(HD3.out.below hb4).lt, (HBx3.out.below hb4).lt⟩)
    obtain ⟨q1, q2⟩ := (HBx3.out.below hb4).cells
    obtain ⟨q3, q4⟩ := (HD3.out.below hb4).cells
    have l1 := (HBx3.out.below hb4).lt
    have l2 := (HD3.out.below hb4).lt
    clear hb4 hba hb4a hva hR hSq HN3 hsz5 hr hbo
    go_wp2_with fail
    rw [← hw5]
    clear hw5 q1 q2 q3 q4 l1 l2
    refine HN5.out.mono ?_
    rintro e w6 ⟨tc, rfl, hvc, hb6⟩
    obtain ⟨ca, ccap, hce, _, _⟩ := hvc.slice
    subst hce
    rw [← HR.out] at hvc ⊢
    rw [← HBO.out]
    unfold recV plV
    simp only at hvc ⊢
    have hba := below2 w6 (.cells #[.int .i64 ia, .int .i64 ib, .slice ca tags.length ccap, .string data] 34) (.cells #[.int .i64 sa, .int .i64 sb] 29)
    have hb6a := hb6.trans (hba.mono hb6.size)
    have hR := ((Blk.new w6 #[.int .i64 ia, .int .i64 ib, .slice ca tags.length ccap, .string data] 34).alloc (.cells #[.int .i64 sa, .int .i64 sb] 29))
    have hSq := Blk.new (w6.alloc (.cells #[.int .i64 ia, .int .i64 ib, .slice ca tags.length ccap, .string data] 34)) #[.int .i64 sa, .int .i64 sb] 29
    rw [show (w6.alloc (.cells #[.int .i64 ia, .int .i64 ib, .slice ca tags.length ccap, .string data] 34)).heap.size = w6.heap.size + 1 by simp] at hSq
    have HB7 := Lib.hid (HB5.out.trans (hb6a.mono HB5.out.size))
    have HBx7 := Lib.hid (HBx5.out.below hb6a)
    have HD7 := Lib.hid (HD5.out.below hb6a)
    have HVA7 := HVA.out.below hb6a
    have HVC7 := hvc.below hba
    have HRa7 := Lib.hid (HR5.out.below hb6a)
    have HSa7 := Lib.hid (HSq5.out.below hb6a)
    have HSZ6 := Lib.hid hb6.size
    have hbel := hb6a.size
    obtain ⟨w7, hw7⟩ : ∃ w7, w7 = (w6.alloc (.cells #[.int .i64 ia, .int .i64 ib, .slice ca tags.length ccap, .string data] 34)).alloc (.cells #[.int .i64 sa, .int .i64 sb] 29) := ⟨_, rfl⟩
    rw [← hw7] at HB7 HBx7 HD7 HVA7 HVC7 hR hSq HRa7 HSa7 hbel
    have HSZ7 := Lib.hid (show w7.heap.size = w6.heap.size + 2 by rw [hw7]; simp)
    have HRc7 := Lib.hid hR
    have HSc7 := Lib.hid hSq
    have HSM := rsame_any ⟨(ia, ib), tags, data⟩ ⟨(ia, ib), tags, data⟩ _ _ w7 HVA7 HVC7 (HTS.out)
    rw [sameR_self] at HSM
    unfold recV at HSM
    simp only at HSM
    have HSM := Lib.hid HSM
    obtain ⟨q1, q2⟩ := (HR5.out.below hb6).cells
    obtain ⟨q3, q4⟩ := (HSq5.out.below hb6).cells
    obtain ⟨q5, q6⟩ := (HBx5.out.below hb6).cells
    obtain ⟨q7, q8⟩ := (HD5.out.below hb6).cells
    have l1 := (HR5.out.below hb6).lt
    have l2 := (HSq5.out.below hb6).lt
    have l3 := (HBx5.out.below hb6).lt
    have l4 := (HD5.out.below hb6).lt
    clear hb6 hba hb6a hvc hR hSq HN5 hbel HVA7 HVC7 HVA
    go_wp2_with fail
    rw [← hw7]
    clear hw7 q1 q2 q3 q4 q5 q6 q7 q8 l1 l2 l3 l4
    refine HSM.out.mono ?_
    rintro e w8 ⟨rfl, hb8⟩
    have HB8 := Lib.hid (HB7.out.trans (hb8.mono HB7.out.size))
    have HBx8 := Lib.hid (HBx7.out.below hb8)
    have HD8 := Lib.hid (HD7.out.below hb8)
    have HRa8 := Lib.hid (HRa7.out.below hb8)
    have HSa8 := Lib.hid (HSa7.out.below hb8)
    have HRc8 := Lib.hid (HRc7.out.below hb8)
    have HSc8 := Lib.hid (HSc7.out.below hb8)
    have HSZ8 := Lib.hid hb8.size
    obtain ⟨z1, z2⟩ := HSa8.out.cells
    obtain ⟨z3, z4⟩ := HSc8.out.cells
    obtain ⟨z5, z6⟩ := HBx8.out.cells
    have l1 := HSa8.out.lt
    have l2 := HSc8.out.lt
    have l3 := HBx8.out.lt
    have heq : (sa == sa && (sb == sb)) = true := by simp
    have hbe : (bo != bo) = false := by simp
    -- Prev
    obtain ⟨p, hp⟩ : ∃ p, prevX st tag (qa, qb) = p := ⟨_, rfl⟩
    have HP := Lib.hid hp
    have HN8 := xprev_any tag (qa, qb) _ (HX.out _ HB8.out) HG.out (by have := HRL.out; omega)
    rw [hp] at HN8
    unfold plV at HN8
    have HN8 := Lib.hid HN8
    clear hb8 HSM hp
    go_wp2_with fail
    refine HN8.out.mono ?_
    rintro e w9 ⟨ua, rfl, hva, hb9⟩
    obtain ⟨aa', acap', hae, _, _⟩ := hva.slice
    subst hae
    obtain ⟨r, hr⟩ : ∃ r, r = p.getD rw0 := ⟨_, rfl⟩
    obtain ⟨bp, hbo⟩ : ∃ b, b = p.isSome := ⟨_, rfl⟩
    rw [← hr] at hva ⊢
    rw [← hbo]
    have HR' := Lib.hid hr
    have HBP := Lib.hid hbo
    have hts : r.r.tags.length ≤ 8 := by
      rw [hr]
      exact tags_smallp HG.out tag HP.out
    obtain ⟨⟨sa', sb'⟩, ⟨⟨ia', ib'⟩, tags', data'⟩⟩ := r
    have HTS' := Lib.hid (show tags'.length ≤ 140737488351232 from Nat.le_trans hts (by decide))
    clear hts
    unfold recV plV
    simp only at hva ⊢
    -- the four blocks apart
    have k6 := HSZ6.out
    have k5 := HSZ5.out
    have k7 := HSZ7.out
    have k8 := HSZ8.out
    have k9 := hb9.size
    have kx := HBx5.out.lt
    have kd := HD3.out.lt
    have kb3 := HB3.out.size
    have kb4 := HB45.out
    have hBx9 := HBx8.out.below hb9
    have hD9 := HD8.out.below hb9
    have hRa9 := HRa8.out.below hb9
    have hSa9 := HSa8.out.below hb9
    have hRc9 := HRc8.out.below hb9
    have hSc9 := HSc8.out.below hb9
    obtain ⟨wa, hwa, hRa, hSa, hCa, hza⟩ := stored hRa9 hSa9 (by omega) (.int .i64 ia') (.int .i64 ib') (.slice aa' tags'.length acap') (.string data') (.int .i64 sa') (.int .i64 sb')
    have HRaa := Lib.hid hRa
    have HSaa := Lib.hid hSa
    have HBxa := Lib.hid (hBx9.ch hCa (by omega))
    have HDa := Lib.hid (hD9.ch hCa (by omega))
    have HRca := Lib.hid (hRc9.ch hCa (by omega))
    have HSca := Lib.hid (hSc9.ch hCa (by omega))
    have HVAa := Lib.hid ((hva.ch hCa (fun k hk e => by omega)).mono (S' := fun k => w8.heap.size ≤ k) (fun _ _ h => h))
    have HBa := Lib.hid (show Below w2.heap.size w2 wa from Ch.below ((Ch.of_below (fun _ => False) (HB8.out.trans (hb9.mono HB8.out.size))).step hCa (fun j hj e => by omega)))
    have HSZa := Lib.hid (show w8.heap.size ≤ wa.heap.size by omega)
    have HN10 := rprev_any L tag (qa, qb) _ (HI.out _ HBa.out) HLL.out HTL2.out
    rw [prev_same HS.out HG.out, HP.out] at HN10
    unfold plV docV at HN10
    have HN10 := Lib.hid HN10
    obtain ⟨q1, q2⟩ := hBx9.cells
    obtain ⟨q3, q4⟩ := hD9.cells
    obtain ⟨q5, q6⟩ := hRa9.cells
    obtain ⟨q7, q8⟩ := hSa9.cells
    have l1 := hBx9.lt
    have l2 := hD9.lt
    have l3 := hRa9.lt
    have l4 := hSa9.lt
    have n1 : w.heap.size ≠ w4.heap.size := by omega
    have n2 : w.heap.size ≠ w4.heap.size + 1 := by omega
    have n3 : w2.heap.size ≠ w4.heap.size := by omega
    have n4 : w2.heap.size ≠ w4.heap.size + 1 := by omega
    clear hb9 hva hRa hSa hCa hza hBx9 hD9 hRa9 hSa9 hRc9 hSc9 k5 k6 k7 k8 k9 kx kd kb3 kb4 hr hbo HN8
    go_wp2_with fail
    rw [← hwa]
    clear hwa q1 q2 q3 q4 q5 q6 q7 q8 l1 l2 l3 l4 n1 n2 n3 n4
    refine HN10.out.mono ?_
    rintro e w10 ⟨tc', rfl, hvc, hb10⟩
    obtain ⟨ca', ccap', hce, _, _⟩ := hvc.slice
    subst hce
    rw [← HR'.out] at hvc ⊢
    rw [← HBP.out]
    unfold recV plV
    simp only at hvc ⊢
    have k6 := HSZ6.out
    have k5 := HSZ5.out
    have k7 := HSZ7.out
    have k8 := HSZ8.out
    have ka := HSZa.out
    have k10 := hb10.size
    have kb4 := HB45.out
    have hBx9 := HBxa.out.below hb10
    have hD9 := HDa.out.below hb10
    have hRa9 := HRaa.out.below hb10
    have hSa9 := HSaa.out.below hb10
    have hRc9 := HRca.out.below hb10
    have hSc9 := HSca.out.below hb10
    obtain ⟨wb, hwb, hRc, hSc, hCb, hzb⟩ := stored hRc9 hSc9 (by omega) (.int .i64 ia') (.int .i64 ib') (.slice ca' tags'.length ccap') (.string data') (.int .i64 sa') (.int .i64 sb')
    have HRcb := Lib.hid hRc
    have HScb := Lib.hid hSc
    have HBxb := Lib.hid (hBx9.ch hCb (by omega))
    have HDb := Lib.hid (hD9.ch hCb (by omega))
    have HRab := Lib.hid (hRa9.ch hCb (by omega))
    have HSab := Lib.hid (hSa9.ch hCb (by omega))
    have HVAb := Lib.hid ((HVAa.out.below hb10).ch hCb (fun k hk e => by omega))
    have HVCb := Lib.hid (hvc.ch hCb (fun k hk e => by omega))
    have HBb := Lib.hid (show Below w2.heap.size w2 wb from Ch.below ((Ch.of_below (fun _ => False) (HBa.out.trans (hb10.mono HBa.out.size))).step hCb (fun j hj e => by omega)))
    have HSZb := Lib.hid (show wa.heap.size ≤ wb.heap.size by omega)
    obtain ⟨q1, q2⟩ := hRc9.cells
    obtain ⟨q3, q4⟩ := hSc9.cells
    have l1 := hRc9.lt
    have l2 := hSc9.lt
    clear hb10 hvc hRc hSc hCb hzb hBx9 hD9 hRa9 hSa9 hRc9 hSc9 k5 k6 k7 k8 ka k10 kb4 HN10
    go_upto_region 12 with fail
    rw [← hwb]
    clear hwb q1 q2 q3 q4 l1 l2
    have HSM := rsame_any ⟨(ia', ib'), tags', data'⟩ ⟨(ia', ib'), tags', data'⟩ _ _ wb.drew (HVAb.out.below (Below.refl _ _).drew) (HVCb.out.below (Below.refl _ _).drew) (HTS'.out)
    rw [sameR_self] at HSM
    unfold recV at HSM
    simp only at HSM
    have HSM := Lib.hid HSM
    have HRG := Lib.hid (fun y : Later wb => xrange_any tag (pa, pb) (qa, qb) y.w (HX.out _ (HBb.out.trans (y.h.mono HBb.out.size))) HG.out (by have := HRL.out; omega))
    have HRR := Lib.hid (fun y : Later wb => rrange_any L tag (pa, pb) (qa, qb) y.w (HI.out _ (HBb.out.trans (y.h.mono HBb.out.size))) HLL.out HTL2.out)
    rw [range_same HS.out] at HRR
    unfold plV docV at HRR
    unfold plV at HRG
    have HRLN := Lib.hid (show (rangeX st tag (pa, pb) (qa, qb)).length ≤ 4194304 from by
      unfold rangeX rangeR
      rw [List.length_map]
      have h1 := List.length_filter_le (fun w : Rw => !lessP w.pl (pa, pb) && lessP w.pl (qa, qb)) (countX st tag)
      have h2 := count_len st tag
      have h3 := HRL.out
      omega)
    obtain ⟨rl, hrl⟩ : ∃ rl, rangeX st tag (pa, pb) (qa, qb) = rl := ⟨_, rfl⟩
    rw [hrl] at HRG HRR HRLN
    have heq : (sa' == sa' && (sb' == sb')) = true := by simp
    have hbe : (bp != bp) = false := by simp
    obtain ⟨z1, z2⟩ := HRab.out.laterCells
    obtain ⟨z3, z4⟩ := HSab.out.laterCells
    obtain ⟨z5, z6⟩ := HRcb.out.laterCells
    obtain ⟨z7, z8⟩ := HScb.out.laterCells
    obtain ⟨z9, z10⟩ := HBxb.out.laterCells
    obtain ⟨z11, z12⟩ := HDb.out.laterCells
    clear hrl
    refine wp_region_stages [(0, false), (1, false), (2, true), (3, false), (4, false), (5, false), (6, false), (7, false), (8, false), (9, false), (10, false), (11, false), (12, false), (13, false), (14, false), (15, false), (16, false), (17, false), (18, false), (19, false), (20, false), (22, false), (23, false), (24, false), (25, false), (26, false), (27, false), (21, true), (28, true), (29, true), (30, false), (31, false)] (st := [([_, _], _), ([_, _, _, _, _, _, _, _, _, _, _, _, _, _, _, _, _, _, _, _, _, _, _, _], _), ([], _), ([], _)]) (last := [_, _]) rfl (by kernel_rfl) (by kernel_rfl) (by kernel_rfl) rfl (by kernel_rfl) (by kernel_rfl) ?_
    refine wpStage_cons ?_
    repeat (go_big_quiet_step (fail))
    refine wpQuiet_nil ?_
    refine stage_call (by kernel_rfl) ?_
    intro K hK
    unfold callAt
    simp [go_sem]
    refine HSM.out.mono ?_
    rintro e wc ⟨rfl, hbc⟩
    obtain ⟨yc, hyc⟩ : ∃ y : Later wb, y.w = wc := ⟨⟨wc, (Below.refl wb.heap.size wb).drew.trans hbc⟩, rfl⟩
    refine ⟨_, rfl, hK _ _ ⟨yc, hyc.symm⟩ ?_⟩
    clear hK K HSM hbc
    simp only [Act.put, List.setIfInBounds_toArray, List.set]
    refine wpStage_cons ?_
    repeat (go_big_quiet_step (fail))
    refine wpQuiet_nil ?_
    refine stage_call (by kernel_rfl) ?_
    intro K hK
    unfold callAt
    simp [go_sem]
    rw [← hyc]
    refine (HRG.out yc).mono ?_
    rintro e wd ⟨rv1, rfl, hrv1, hbd⟩
    obtain ⟨yd, hyd⟩ : ∃ y : Later wb, y.w = wd := ⟨⟨wd, yc.h.trans (hbd.mono yc.h.size)⟩, rfl⟩
    refine ⟨_, rfl, hK _ _ ⟨yd, hyd.symm⟩ ?_⟩
    clear hK K HRG hbd
    simp only [Act.put, List.setIfInBounds_toArray, List.set]
    refine wpStage_cons ?_
    refine wpQuiet_nil ?_
    refine stage_call (by kernel_rfl) ?_
    intro K hK
    unfold callAt
    simp [go_sem]
    rw [← hyd]
    refine (HRR.out yd).mono ?_
    rintro e we ⟨⟨rv2, rfl, hrv2⟩, hbe2⟩
    obtain ⟨ye, hye⟩ : ∃ y : Later wb, y.w = we := ⟨⟨we, yd.h.trans (hbe2.mono yd.h.size)⟩, rfl⟩
    refine ⟨_, rfl, hK _ _ ⟨ye, hye.symm⟩ ?_⟩
    have HSQ := Lib.hid (sameSeqs_any rl rv1 rv2 we ((VRow.of_own plO_len hrv1 (S := fun _ => True) (fun _ _ => trivial)).below (by rw [← hyd]; exact hbe2)) hrv2 HRLN.out)
    clear hK K HRR hbe2 hrv1 hrv2
    simp only [Act.put, List.setIfInBounds_toArray, List.set]
    refine wpStage_cons ?_
    refine wpQuiet_nil ?_
    refine stage_call (by kernel_rfl) ?_
    intro K hK
    unfold callAt
    simp [go_sem]
    refine HSQ.out.mono ?_
    rintro e wf ⟨rfl, hbf⟩
    obtain ⟨yf, hyf⟩ : ∃ y : Later wb, y.w = wf := ⟨⟨wf, ye.h.trans (by rw [hye]; exact hbf.mono (by rw [← hye]; exact ye.h.size))⟩, rfl⟩
    refine ⟨_, rfl, hK _ _ ⟨yf, hyf.symm⟩ ?_⟩
    clear hK K HSQ hbf
    simp only [Act.put, List.setIfInBounds_toArray, List.set]
    refine wpStage_nil ?_
    repeat (go_big_quiet_step (fail))
    refine wpQuiet_nil ?_
    have HBf := Lib.hid (show Below w2.heap.size w2 wf by rw [← hyf]; exact HBb.out.trans (yf.h.mono HBb.out.size))
    have HBxf := Lib.hid (show Blk wf w.heap.size _ _ by rw [← hyf]; exact HBxb.out.below yf.h)
    have HDf := Lib.hid (show Blk wf w2.heap.size _ _ by rw [← hyf]; exact HDb.out.below yf.h)
    have HSaf := Lib.hid (show Blk wf (w4.heap.size + 1) _ _ by rw [← hyf]; exact HSab.out.below yf.h)
    have HSZf := Lib.hid (show w4.heap.size + 2 ≤ wf.heap.size by
      have h1 := HSZ5.out
      have h2 := HSZ6.out
      have h3 := HSZ7.out
      have h4 := HSZ8.out
      have h5 := HSZa.out
      have h6 := HSZb.out
      have h7 := yf.h.size
      rw [hyf] at h7
      omega)
    clear z1 z2 z3 z4 z5 z6 z7 z8 z9 z10 z11 z12 hyf hye hyd hyc
    have HLC := Lib.hid (show (countL L tag).length = (countX st tag).length by rw [← count_same HS.out, ← count_its, its, List.length_map, List.length_map])
    have HCO := rcounting_any L tag _ (HI.out _ HBf.out) HLL.out HTL2.out
    unfold docV at HCO
    have HCO := Lib.hid HCO
    obtain ⟨⟨⟨ua, ub⟩, uis⟩, htd⟩ : ∃ q, trimD (its L) tag = q := ⟨_, rfl⟩
    have HTD := Lib.hid htd
    have HYL := Lib.hid (show (countL L tag).length ≤ 60 from Nat.le_trans (List.length_filter_le _ _) HLL.out)
    obtain ⟨q1, q2⟩ := HDf.out.cells
    have l1 := HDf.out.lt
    clear htd
    go_wp2_with fail
    clear q1 q2 l1
    cases hcl : (countL L tag).length with
    | zero =>
      have HLEN := Lib.hid hcl
      have HTX := Lib.hid (tail_none HS.out hcl)
      clear hcl
      refine HCO.out.mono ?_
      rintro e wg ⟨⟨kv, rfl, hrow⟩, hbg⟩
      have HKV := Lib.hid (VRow.of_own itO_len hrow (S := fun g => wf.heap.size ≤ g) (fun g e => (hrow.own e).1))
      obtain ⟨ka, kcap, rfl, _, _⟩ := HKV.out.slice
      rw [HLEN.out]
      have HBg := Lib.hid (HBf.out.trans (hbg.mono HBf.out.size))
      have HBxg := Lib.hid (HBxf.out.below hbg)
      have HDg := Lib.hid (HDf.out.below hbg)
      have HSag := Lib.hid (HSaf.out.below hbg)
      have HZg := Lib.hid hbg.size
      have HTA := xtail_any tag _ (HX.out _ HBg.out) HG.out (by have := HRL.out; omega)
      rw [HTX.out] at HTA
      unfold tailV plV at HTA
      simp only [Option.getD_some, Option.getD_none, Option.isSome_some, Option.isSome_none] at HTA
      have HTA := Lib.hid HTA
      clear hrow hbg HCO
      go_wp2_with fail
      refine HTA.out.mono ?_
      rintro e wh ⟨rfl, hbh⟩
      have hSah := HSag.out.below hbh
      have hDh := HDg.out.below hbh
      obtain ⟨wi, hwi, hSi, hCi, hzi⟩ := stored2 hSah (.int .i64 rw0.pl.1) (.int .i64 rw0.pl.2)
      have kz := HSZf.out
      have kg := HZg.out
      have kh := hbh.size
      have kb4 := HB45.out
      have HSai := Lib.hid hSi
      have HDi := Lib.hid (hDh.ch hCi (by omega))
      have HKVi := Lib.hid ((HKV.out.below hbh).ch hCi (fun k hk e => by omega))
      have HBi := Lib.hid (show Below w2.heap.size w2 wi from Ch.below ((Ch.of_below (fun _ => False) (HBg.out.trans (hbh.mono HBg.out.size))).step hCi (fun j hj e => by omega)))
      have HTM := xtrimmed_any tag _ (HX.out _ HBi.out)
      rw [trim_same HS.out, HTD.out] at HTM
      unfold plV at HTM
      have HTM := Lib.hid HTM
      obtain ⟨q1, q2⟩ := hSah.cells
      obtain ⟨q3, q4⟩ := hDh.cells
      have l1 := hSah.lt
      have l2 := hDh.lt
      clear kz kg kh kb4 hSi hCi hzi hSah hDh hbh HTA
      go_wp2_with fail
      rw [← hwi]
      clear hwi q1 q2 q3 q4 l1 l2
      refine HTM.out.mono ?_
      rintro e wj ⟨rfl, hbj⟩
      have hbk := below1 wj (.cells #[.int .i64 ua, .int .i64 ub] 29)
      have hbjk := hbj.trans (hbk.mono hbj.size)
      have HUk := Lib.hid (Blk.new wj #[.int .i64 ua, .int .i64 ub] 29)
      obtain ⟨q1, q2⟩ := (HDi.out.below hbj).cells
      have l1 := (HDi.out.below hbj).lt
      have HSak := Lib.hid (HSai.out.below hbjk)
      have HKVk := Lib.hid (HKVi.out.below hbjk)
      have HBk := Lib.hid (HBi.out.trans (hbjk.mono HBi.out.size))
      have HRT := rtrimmed_any L tag _ (HI.out _ HBk.out) (by have := HLL.out; omega)
      rw [HTD.out] at HRT
      unfold docV plV at HRT
      have HRT := Lib.hid HRT
      obtain ⟨wk, hwk⟩ : ∃ wk, wk = wj.alloc (.cells #[.int .i64 ua, .int .i64 ub] 29) := ⟨_, rfl⟩
      rw [← hwk] at HUk HSak HKVk HBk HRT
      clear hbj hbk hbjk HTM
      go_wp2_with fail
      rw [← hwk]
      clear hwk q1 q2 l1
      refine HRT.out.mono ?_
      rintro e wl ⟨rfl, hbl⟩
      have hbm := below1 wl (.cells #[.int .i64 ua, .int .i64 ub] 29)
      have hblm := hbl.trans (hbm.mono hbl.size)
      have HVm := Lib.hid (Blk.new wl #[.int .i64 ua, .int .i64 ub] 29)
      have HUm := Lib.hid (HUk.out.below hblm)
      have HSam := Lib.hid (HSak.out.below hblm)
      have HKVm := Lib.hid (HKVk.out.below hblm)
      have HBm := Lib.hid (HBk.out.trans (hblm.mono HBk.out.size))
      obtain ⟨wm, hwm⟩ : ∃ wm, wm = wl.alloc (.cells #[.int .i64 ua, .int .i64 ub] 29) := ⟨_, rfl⟩
      rw [← hwm] at HVm HUm HSam HKVm HBm
      clear hbl hbm hblm HRT
      go_upto_region 18 with fail
      rw [← hwm]
      clear hwm
      have HAL := Lib.hid (fun y : Later wm => alive_any y.w)
      have HLN := Lib.hid (fun y : Later wm => xlen_any tag y.w (HX.out _ (HBm.out.trans (y.h.mono HBm.out.size))) HG.out (by have := HRL.out; omega))
      rw [← HLC.out, HLEN.out] at HLN
      obtain ⟨z1, z2⟩ := HSam.out.laterCells
      obtain ⟨z3, z4⟩ := HUm.out.laterCells
      obtain ⟨z5, z6⟩ := HVm.out.laterCells
      have heq : (ua == ua && (ub == ub)) = true := by simp
      cases uis <;>
      · refine wp_region_later (by kernel_rfl) (by kernel_rfl) ?_
        repeat (go_big_quiet_step (first | (go_at_call 10; exact Calls.later (HAL.out _)) | (go_at_call 21; exact Calls.later (HLN.out _))))
        refine wpQuiet_nil ?_
        rintro _ ⟨y, rfl⟩
        have HBy := Lib.hid (HBm.out.trans (y.h.mono HBm.out.size))
        go_wp2_with fail
        go_ret
        exact ⟨rfl, HW0.out.trans ((HB2.out.trans (HBy.out.mono HB2.out.size)).mono HW0.out.size)⟩
    | succ k =>
      have HLEN := Lib.hid hcl
      have HKL := Lib.hid (show k ≤ 60 by have := HYL.out; omega)
      obtain ⟨⟨i, tv⟩, hpk⟩ : ∃ p, (countL L tag)[k]? = some p := ⟨_, List.getElem?_eq_getElem (by omega)⟩
      have htx := tail_some HS.out hcl hpk
      obtain ⟨kind, ⟨ia2, ib2⟩, rr, itag, iup, ifar⟩ := i
      have HPK := Lib.hid hpk
      unfold rowI at htx
      have HTX := Lib.hid htx
      clear hcl hpk htx
      refine HCO.out.mono ?_
      rintro e wg ⟨⟨kv, rfl, hrow⟩, hbg⟩
      have HKV := Lib.hid (VRow.of_own itO_len hrow (S := fun g => wf.heap.size ≤ g) (fun g e => (hrow.own e).1))
      obtain ⟨ka, kcap, rfl, _, _⟩ := HKV.out.slice
      rw [HLEN.out]
      have HBg := Lib.hid (HBf.out.trans (hbg.mono HBf.out.size))
      have HBxg := Lib.hid (HBxf.out.below hbg)
      have HDg := Lib.hid (HDf.out.below hbg)
      have HSag := Lib.hid (HSaf.out.below hbg)
      have HZg := Lib.hid hbg.size
      have HTA := xtail_any tag _ (HX.out _ HBg.out) HG.out (by have := HRL.out; omega)
      rw [HTX.out] at HTA
      unfold tailV plV at HTA
      simp only [Option.getD_some, Option.getD_none, Option.isSome_some, Option.isSome_none] at HTA
      have HTA := Lib.hid HTA
      clear hrow hbg HCO
      go_wp2_with fail
      refine HTA.out.mono ?_
      rintro e wh ⟨rfl, hbh⟩
      have hSah := HSag.out.below hbh
      have hDh := HDg.out.below hbh
      obtain ⟨wi, hwi, hSi, hCi, hzi⟩ := stored2 hSah (.int .i64 ia2) (.int .i64 ib2)
      have kz := HSZf.out
      have kg := HZg.out
      have kh := hbh.size
      have kb4 := HB45.out
      have HSai := Lib.hid hSi
      have HDi := Lib.hid (hDh.ch hCi (by omega))
      have HKVi := Lib.hid ((HKV.out.below hbh).ch hCi (fun k hk e => by omega))
      have HBi := Lib.hid (show Below w2.heap.size w2 wi from Ch.below ((Ch.of_below (fun _ => False) (HBg.out.trans (hbh.mono HBg.out.size))).step hCi (fun j hj e => by omega)))
      have HTM := xtrimmed_any tag _ (HX.out _ HBi.out)
      rw [trim_same HS.out, HTD.out] at HTM
      unfold plV at HTM
      have HTM := Lib.hid HTM
      obtain ⟨q1, q2⟩ := hSah.cells
      obtain ⟨q3, q4⟩ := hDh.cells
      have l1 := hSah.lt
      have l2 := hDh.lt
      clear kz kg kh kb4 hSi hCi hzi hSah hDh hbh HTA
      go_wp2_with fail
      rw [← hwi]
      clear hwi q1 q2 q3 q4 l1 l2
      refine HTM.out.mono ?_
      rintro e wj ⟨rfl, hbj⟩
      have hbk := below1 wj (.cells #[.int .i64 ua, .int .i64 ub] 29)
      have hbjk := hbj.trans (hbk.mono hbj.size)
      have HUk := Lib.hid (Blk.new wj #[.int .i64 ua, .int .i64 ub] 29)
      obtain ⟨q1, q2⟩ := (HDi.out.below hbj).cells
      have l1 := (HDi.out.below hbj).lt
      have HSak := Lib.hid (HSai.out.below hbjk)
      have HKVk := Lib.hid (HKVi.out.below hbjk)
      have HBk := Lib.hid (HBi.out.trans (hbjk.mono HBi.out.size))
      have HRT := rtrimmed_any L tag _ (HI.out _ HBk.out) (by have := HLL.out; omega)
      rw [HTD.out] at HRT
      unfold docV plV at HRT
      have HRT := Lib.hid HRT
      obtain ⟨wk, hwk⟩ : ∃ wk, wk = wj.alloc (.cells #[.int .i64 ua, .int .i64 ub] 29) := ⟨_, rfl⟩
      rw [← hwk] at HUk HSak HKVk HBk HRT
      clear hbj hbk hbjk HTM
      go_wp2_with fail
      rw [← hwk]
      clear hwk q1 q2 l1
      refine HRT.out.mono ?_
      rintro e wl ⟨rfl, hbl⟩
      have hbm := below1 wl (.cells #[.int .i64 ua, .int .i64 ub] 29)
      have hblm := hbl.trans (hbm.mono hbl.size)
      have HVm := Lib.hid (Blk.new wl #[.int .i64 ua, .int .i64 ub] 29)
      have HUm := Lib.hid (HUk.out.below hblm)
      have HSam := Lib.hid (HSak.out.below hblm)
      have HKVm := Lib.hid (HKVk.out.below hblm)
      have HBm := Lib.hid (HBk.out.trans (hblm.mono HBk.out.size))
      obtain ⟨wm, hwm⟩ : ∃ wm, wm = wl.alloc (.cells #[.int .i64 ua, .int .i64 ub] 29) := ⟨_, rfl⟩
      rw [← hwm] at HVm HUm HSam HKVm HBm
      clear hbl hbm hblm HRT
      go_upto_region 18 with fail
      rw [← hwm]
      clear hwm
      have HAL := Lib.hid (fun y : Later wm => alive_any y.w)
      have HLN := Lib.hid (fun y : Later wm => xlen_any tag y.w (HX.out _ (HBm.out.trans (y.h.mono HBm.out.size))) HG.out (by have := HRL.out; omega))
      rw [← HLC.out, HLEN.out] at HLN
      obtain ⟨z1, z2⟩ := HSam.out.laterCells
      obtain ⟨z3, z4⟩ := HUm.out.laterCells
      obtain ⟨z5, z6⟩ := HVm.out.laterCells
      obtain ⟨g, off, cap2, e, hat⟩ := HKVm.out.at HPK.out
      cases e
      have c1 : wm.cell? ⟨g, off + k * 12 + 1, none⟩ = some (.int .i64 ia2) := by simpa [Nat.add_assoc] using hat 1 _ rfl
      have c2 : wm.cell? ⟨g, off + k * 12 + 2, none⟩ = some (.int .i64 ib2) := by simpa [Nat.add_assoc] using hat 2 _ rfl
      have d1 := fun y : Later wm => (y.h.cell (cell_spot c1).2).trans c1
      have d2 := fun y : Later wm => (y.h.cell (cell_spot c2).2).trans c2
      obtain ⟨hw1, hw2, hk1, ht1, ht2, ht3⟩ := last_k HKL.out
      have heq2 : (ia2 == ia2 && (ib2 == ib2)) = true := by simp
      clear c1 c2 hat
      have heq : (ua == ua && (ub == ub)) = true := by simp
      cases uis <;>
      · refine wp_region_later (by kernel_rfl) (by kernel_rfl) ?_
        repeat (go_big_quiet_step (first | (go_at_call 10; exact Calls.later (HAL.out _)) | (go_at_call 21; exact Calls.later (HLN.out _))))
        refine wpQuiet_nil ?_
        rintro _ ⟨y, rfl⟩
        have HBy := Lib.hid (HBm.out.trans (y.h.mono HBm.out.size))
        go_wp2_with fail
        go_ret
        exact ⟨rfl, HW0.out.trans ((HB2.out.trans (HBy.out.mono HB2.out.size)).mono HW0.out.size)⟩
/-- IndexAll, as its row asks. -/
theorem all_row {v : Value} (l : List (It × Value)) (tag : Int) (at' : Pl × Pl) (w : World) (ro : VRow (fun k => k < w.heap.size) 12 itO w v l) (ok : ∀ p ∈ l, VRow (fun k => k < w.heap.size) 1 intO w p.2 p.1.r.tags ∧ p.1.r.tags.length ≤ 140737488351232 ∧ p.1.r.data.size ≤ 140737488351232) (hl : l.length * 120 ≤ 140737488351232) (_ : (Lit.int .i64 tag).wf = true)
    (_ : ((Lit.int .i64 at'.1.1).wf = true ∧ (Lit.int .i64 at'.1.2).wf = true) ∧ ((Lit.int .i64 at'.2.1).wf = true ∧ (Lit.int .i64 at'.2.2).wf = true)) :
    Calls Try.prog 7 #[v, .int .i64 tag, .agg (plO at'.1 ++ plO at'.2).toArray] w fun e w' => e = .returned (.bool true) ∧ Below w.heap.size w w' :=
  all_main l tag at'.1 at'.2 w (its_of ro ok) (by omega) (fun p hp => (ok p hp).2.1)
theorem flatTwo : Flat Try.prog 59 (fun y : Pl × Pl => plO y.1 ++ plO y.2) (fun y => ((Lit.int .i64 y.1.1).wf = true ∧ (Lit.int .i64 y.1.2).wf = true) ∧ ((Lit.int .i64 y.2.1).wf = true ∧ (Lit.int .i64 y.2.2).wf = true)) :=
  Flat.two flatSeq Try.underlying59 (by kernel_rfl)
end Go.Proofs.Ytpcocmdhdnfjcaa
