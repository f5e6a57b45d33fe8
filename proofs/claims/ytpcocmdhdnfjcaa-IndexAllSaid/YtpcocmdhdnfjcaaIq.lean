/- index's laws: filled. -/
import Derived.Test.YtpcocmdhdnfjcaaIp3
import Derived.Test.YtpcocmdhdnfjcaaIn
set_option linter.unusedVariables false
set_option linter.unusedSimpArgs false
namespace Go.Proofs.Ytpcocmdhdnfjcaa
open Go.RowKit

/-- Behind a list of items. -/
def stD (L : List It) : XSt := L.foldl (fun s i => (applyX s i).1) xst0
theorem stD_snoc (L : List It) (i : It) : stD (L ++ [i]) = (applyX (stD L) i).1 := by unfold stD; rw [List.foldl_append]; rfl
/-- The list of what was applied, and the index behind it. -/
structure Same (L : List It) (st : XSt) : Prop where
  eq : st = stD L
  last : st.last = lastD L
  app : st.applied = L.length
  kinds : ∀ i ∈ L, i.kind = 1 ∨ i.kind = 2
theorem same0 : Same [] xst0 := ⟨rfl, rfl, rfl, fun _ h => by cases h⟩
theorem good_keeps {L : List It} {st : XSt} (h : Same L st) (i : It) : goodD L i = (trimsX i || keepsX st i) := by
  unfold goodD trimsX keepsX
  have e : decide (0 < i.seq.1) = decide (1 ≤ i.seq.1) := by rw [Bool.eq_iff_iff]; simp; omega
  rw [h.last, e]
theorem same_step {L : List It} {st : XSt} (h : Same L st) (i : It) : (applyX st i).2 = (if goodD L i = true then 0 else 1) ∧ Same (if goodD L i = true then L ++ [i] else L) (applyX st i).1 := by
  have hg := good_keeps h i
  by_cases hk : keepsX st i = true
  · have hgd : goodD L i = true := by rw [hg, hk]; simp
    have hk1 : i.kind = 1 := by
      unfold keepsX at hk
      simp only [Bool.and_eq_true, beq_iff_eq] at hk
      exact hk.1.1.1.1
    have ha : applyX st i = (incX (addX st i), 0) := by unfold applyX; rw [if_pos hk]
    rw [if_pos hgd, if_pos hgd]
    refine ⟨by rw [ha], ⟨by rw [stD_snoc, ← h.eq], ?_, ?_, ?_⟩⟩
    · rw [ha, lastD_snoc, if_pos hk1]
      rfl
    · rw [ha, List.length_append]
      show st.applied + 1 = _
      rw [h.app]
      rfl
    · intro j hj
      rcases List.mem_append.1 hj with hj | hj
      · exact h.kinds j hj
      · simp at hj; subst hj; exact .inl hk1
  · by_cases ht : trimsX i = true
    · have hgd : goodD L i = true := by rw [hg, ht]; rfl
      have hk2 : i.kind = 2 := by
        unfold trimsX at ht
        simp only [Bool.and_eq_true, beq_iff_eq] at ht
        exact ht.1
      have ha : applyX st i = (incX (trimX st i), 0) := by unfold applyX; rw [if_neg hk, if_pos ht]
      rw [if_pos hgd, if_pos hgd]
      refine ⟨by rw [ha], ⟨by rw [stD_snoc, ← h.eq], ?_, ?_, ?_⟩⟩
      · rw [ha, lastD_snoc, if_neg (by omega)]
        exact h.last
      · rw [ha, List.length_append]
        show st.applied + 1 = _
        rw [h.app]
        rfl
      · intro j hj
        rcases List.mem_append.1 hj with hj | hj
        · exact h.kinds j hj
        · simp at hj; subst hj; exact .inr hk2
    · have hgd : goodD L i = false := by rw [hg]; simp at hk ht; rw [hk, ht]; rfl
      have ha : applyX st i = (st, 1) := by unfold applyX; rw [if_neg hk, if_neg ht]
      rw [hgd]
      simp only [Bool.false_eq_true, if_false]
      rw [ha]
      exact ⟨rfl, h⟩

/-- What filled tells. -/
def FillPost (l : List (It × Value)) (w : World) (e : Ending) (w' : World) : Prop :=
  ∃ x v G st L, e = .returned (.tuple #[.pointer (some ⟨x, 0, none⟩), docV v, .bool true]) ∧ Run w G w' x st ∧ ItsAt G w' v L ∧ Same (its L) st ∧ lowX st ∧ st.rows.length ≤ l.length ∧ L.length ≤ l.length ∧ (∀ p ∈ L, p ∈ l)
/-- filled's loop. -/
def FiIn (w : World) (x br bx : Nat) (l : List (It × Value)) (v14 : Value) (wi : World) : Prop :=
  ∃ (k : Nat) (v : Value) (G : Nat → Prop) (st : XSt) (L : List (It × Value)), v14 = .int .i64 (k : Int) ∧ k ≤ l.length ∧ Run w G wi x st ∧ ItsAt (fun j => G j ∧ j ≠ bx ∧ j ≠ br) wi v L ∧ Same (its L) st ∧ lowX st ∧ st.rows.length ≤ k ∧ L.length ≤ k ∧ (∀ p ∈ L, p ∈ l) ∧ Blk wi br #[.slice none 0 0] 48 ∧ Blk wi bx #[v] 48 ∧ G br ∧ G bx ∧ w.heap.size < bx
theorem fill_fin {l : List (It × Value)} {w wr w9 : World} {G : Nat → Prop} {x bx : Nat} {st : XSt} {v u : Value} {L : List (It × Value)} (hR : Run w G wr x st) (hI : ItsAt (fun j => G j ∧ j ≠ bx ∧ j ≠ w.heap.size) wr v L) (hS : Same (its L) st) (hlo : lowX st) (h1 : st.rows.length ≤ l.length) (h2 : L.length ≤ l.length) (h3 : ∀ p ∈ L, p ∈ l) (hG : G w.heap.size) (hb : Below wr.drew.heap.size wr.drew w9) :
    FillPost l w (.returned (.tuple #[.pointer (some ⟨x, 0, none⟩), .agg #[v], .bool true])) (w9.setCell ⟨w.heap.size, 0, none⟩ u) := by
  have hb' : Below wr.heap.size wr w9 := (Below.refl _ _).drew.trans hb
  obtain ⟨G', R', hG', _⟩ := (hR.below hb').grown (S := (· = w.heap.size)) (w2 := w9.setCell ⟨w.heap.size, 0, none⟩ u) ((Ch.refl (· = w.heap.size) w9).set (p := ⟨w.heap.size, 0, none⟩) (.inr rfl) u) (fun k e => by subst e; exact ⟨hG, Nat.le_refl _⟩)
  have h4 := (hI.below hb').ch (S' := (· = w.heap.size)) (w1 := w9.setCell ⟨w.heap.size, 0, none⟩ u) ((Ch.refl (· = w.heap.size) w9).set (p := ⟨w.heap.size, 0, none⟩) (.inr rfl) u) (fun j e e2 => e.2.2 e2)
  exact ⟨x, v, G', st, L, rfl, R', ⟨h4.row.mono fun j _ e => hG' _ e.1, fun p hp => (h4.tags p hp).mono fun j _ e => hG' _ e.1⟩, hS, hlo, h1, h2, h3⟩
set_option maxRecDepth 100000 in
set_option maxHeartbeats 16000000 in
theorem filled_any {v : Value} (l : List (It × Value)) (w : World) (hv : ItsAt (fun k => k < w.heap.size) w v l) (hm : l.length ≤ 60) (hlo : ∀ p ∈ l, lowI p.1) (htl : ∀ p ∈ l, p.1.r.tags.length ≤ 140737488351232) :
    Calls Try.prog 15 #[v] w (FillPost l w) := by
  have HV := Lib.hid hv
  obtain ⟨la, lcap, rfl, _, _⟩ := hv.row.slice
  have HLO := Lib.hid hlo
  have HTL := Lib.hid htl
  have HM := Lib.hid hm
  have hb0 := below1 w (.cells #[.slice none 0 0] 48)
  have B0 := Blk.new w #[.slice none 0 0] 48
  obtain ⟨w0, hw0⟩ : ∃ w0, w0 = w.alloc (.cells #[.slice none 0 0] 48) := ⟨_, rfl⟩
  rw [← hw0] at hb0 B0
  have HN := Lib.hid (xnew_any w0)
  have HB := Lib.hid hb0
  have HB0 := Lib.hid B0
  clear hv hm hlo htl hb0 B0
  go_enter Try.func15, Try.ntmps15
  go_wp2_with fail
  rw [← hw0]
  clear hw0
  refine HN.out.mono ?_
  intro e w1 hpost
  obtain ⟨x, G0, rfl, R1⟩ := Run.new hpost
  have hR1 := R1.from HB.out
  have hbr0 : G0 w.heap.size := R1.old _ HB0.out.lt
  obtain ⟨G1, R2, hG1, hn1⟩ := hR1.grow (below1 w1 (.cells #[.slice none 0 0] 48))
  have HR2 := Lib.hid R2
  have HBr := Lib.hid ((HB0.out.below R1.ch).alloc (.cells #[.slice none 0 0] 48))
  have HBx := Lib.hid (Blk.new w1 #[.slice none 0 0] 48)
  have HGr := Lib.hid (hG1 _ hbr0)
  have HGx := Lib.hid (hn1 w1.heap.size (Nat.le_refl _) (by simp))
  have hbrx : w.heap.size < w1.heap.size := Nat.lt_of_lt_of_le HB0.out.lt R1.ch.size
  have HRX := Lib.hid hbrx
  clear hpost R1 hR1 hbr0 R2 hG1 hn1 HN hbrx
  go_wp2_with fail
  go_loopw [14] (fun v14 wi => FiIn w x w.heap.size w1.heap.size l v14 wi) (fun i _ => l.length - (intOf i).toNat)
  case atStart => exact ⟨0, _, G1, xst0, [], rfl, Nat.zero_le _, HR2.out, ⟨VRow.nil _ _, fun p hp => by cases hp⟩, same0, low0, Nat.le_refl _, Nat.le_refl _, (fun p hp => by cases hp), HBr.out, HBx.out, HGr.out, HGx.out, HRX.out⟩
  case round =>
    obtain ⟨k, v, G, st, L, rfl, hk, hR, hI, hS, hlo, hrl, hLl, hsub, hBr, hBx, hGr, hGx, hwx⟩ := hrel
    have HRr := Lib.hid hR
    have HIr := Lib.hid hI
    have HS := Lib.hid hS
    have HLs := Lib.hid hlo
    have HAPP := Lib.hid (show st.applied = L.length by rw [hS.app]; simp [its])
    have HRL := Lib.hid (And.intro hrl hLl)
    have HSUB := Lib.hid hsub
    have HBrr := Lib.hid hBr
    have HBxr := Lib.hid hBx
    have HGrr := Lib.hid hGr
    have HGxr := Lib.hid hGx
    have HWX := Lib.hid hwx
    obtain ⟨va, vcap, rfl, _, _⟩ := hI.row.slice
    have hVr := HV.out.below hR.ch
    clear hR hI hS hlo hrl hLl hsub hBr hBx hGr hGx hwx HR2 HBr HBx HGr HGx
    by_cases hlt : k < l.length
    · have ht : decide ((k : Int) < (l.length : Int)) = true := by simpa using hlt
      obtain ⟨⟨i, tv⟩, hp⟩ : ∃ p, l[k]? = some p := ⟨_, List.getElem?_eq_getElem hlt⟩
      obtain ⟨g, off, cap2, e, hg, hSg, htv, c0, c1, c2, c3, c4, c5, c6, c7, c8, c9, c10, c11⟩ := hVr.item hp
      cases e
      have HMEM := Lib.hid (List.mem_of_getElem? hp)
      have HTV := Lib.hid htv
      have HLOi := Lib.hid (HLO.out _ (List.mem_of_getElem? hp))
      have HTLi := Lib.hid (HTL.out _ (List.mem_of_getElem? hp))
      have HLT := Lib.hid hlt
      have HW2 := Lib.hid (show wrap64 ((k : Int) + 1) = (k : Int) + 1 from IntWalk.wrap64_in _ (by have := HM.out; omega))
      obtain ⟨ta, tcap, hte, _, _⟩ := htv.slice
      subst hte
      have hbi := below1 wr (.cells #[.int .i64 i.kind, .int .i64 i.seq.1, .int .i64 i.seq.2, .int .i64 i.r.id.1, .int .i64 i.r.id.2, .slice ta i.r.tags.length tcap, .string i.r.data, .int .i64 i.tag, .int .i64 i.upto.1, .int .i64 i.upto.2, .int .i64 i.far.1, .int .i64 i.far.2] 38)
      have hBi := Blk.new wr #[.int .i64 i.kind, .int .i64 i.seq.1, .int .i64 i.seq.2, .int .i64 i.r.id.1, .int .i64 i.r.id.2, .slice ta i.r.tags.length tcap, .string i.r.data, .int .i64 i.tag, .int .i64 i.upto.1, .int .i64 i.upto.2, .int .i64 i.far.1, .int .i64 i.far.2] 38
      obtain ⟨q1, q2⟩ := HBxr.out.cells
      have lbx := HBxr.out.lt
      have HBI := Lib.hid hBi
      have HbI := Lib.hid hbi
      obtain ⟨G3, R3, hG3, hn3⟩ := HRr.out.grow hbi
      have HR3 := Lib.hid R3
      have HG3 := Lib.hid hG3
      have HGi := Lib.hid (hn3 wr.heap.size (Nat.le_refl _) (by simp))
      have HRA := Lib.hid (rapply_any L i (.slice ta i.r.tags.length tcap) _ (HIr.out.below hbi) ((HTV.out.below hbi).mono (S' := fun j => G j ∧ j ≠ w1.heap.size ∧ j ≠ w.heap.size) (fun j _ hj => ⟨HRr.out.old j hj, by have := HWX.out; omega, by omega⟩)) (by have := HRL.out; have := HM.out; omega) HTLi.out)
      have hsame := same_step HS.out i
      have HSM := Lib.hid hsame
      obtain ⟨gd, hgd⟩ : ∃ b, goodD (its L) i = b := ⟨_, rfl⟩
      rw [hgd] at HRA HSM
      unfold docV item16V at HRA
      clear hp hVr htv hlt hbi hBi R3 hG3 hn3 hsame hgd hSg
      go_wp2_with fail
      refine HRA.out.mono ?_
      rintro e w2 ⟨v2, rfl, hI2, hb2⟩
      obtain ⟨L2, hL2⟩ : ∃ L2, (if gd = true then L ++ [(i, Value.slice ta i.r.tags.length tcap)] else L) = L2 := ⟨_, rfl⟩
      have hsm2 := HSM.out.2
      have hits : its L2 = (if gd = true then its L ++ [i] else its L) := by rw [← hL2]; cases gd <;> simp [its]
      rw [← hits] at hsm2
      have hL2l : L2.length ≤ L.length + 1 := by rw [← hL2]; cases gd <;> simp
      have hL2s : ∀ p ∈ L2, p ∈ l := by
        rw [← hL2]
        cases gd with
        | true =>
          intro p hp
          rcases List.mem_append.1 hp with hp | hp
          · exact HSUB.out p hp
          · simp at hp; rw [hp]; exact HMEM.out
        | false => exact HSUB.out
      rw [hL2] at hI2
      have hse := hI2.row.slice
      obtain ⟨va2, vcap2, hv2e, _, _⟩ := hse
      subst hv2e
      have HL2 := Lib.hid (And.intro hL2l hL2s)
      have HSM2 := Lib.hid hsm2
      obtain ⟨c, hc⟩ : ∃ c : Int, (if gd = true then (0 : Int) else 1) = c := ⟨_, rfl⟩
      have hcr := HSM.out.1
      rw [hc] at hcr
      have HCR := Lib.hid hcr
      have hcc : (c != c) = false := by simp
      rw [hc]
      unfold docV
      obtain ⟨G4, R4, hG4, hn4⟩ := HR3.out.grow hb2
      have hsz2 := HbI.out.size
      have hI4b : ItsAt (fun j => G4 j ∧ j ≠ w1.heap.size ∧ j ≠ w.heap.size) w2 (.slice va2 L2.length vcap2) L2 := by
        have key : ∀ j, j < w2.heap.size → ((G j ∧ j ≠ w1.heap.size ∧ j ≠ w.heap.size) ∨ (wr.alloc (.cells #[.int .i64 i.kind, .int .i64 i.seq.1, .int .i64 i.seq.2, .int .i64 i.r.id.1, .int .i64 i.r.id.2, .slice ta i.r.tags.length tcap, .string i.r.data, .int .i64 i.tag, .int .i64 i.upto.1, .int .i64 i.upto.2, .int .i64 i.far.1, .int .i64 i.far.2] 38)).heap.size ≤ j) → G4 j ∧ j ≠ w1.heap.size ∧ j ≠ w.heap.size := fun j hj e => by
          rcases e with e | e
          · exact ⟨hG4 _ (HG3.out _ e.1), e.2⟩
          · exact ⟨hn4 j e hj, by omega, by have := HWX.out; omega⟩
        exact ⟨hI2.row.mono key, fun p hp => (hI2.tags p hp).mono key⟩
      have HBx2 := Lib.hid ((HBxr.out.below HbI.out).below hb2)
      have HBr2 := (HBrr.out.below HbI.out).below hb2
      have HBi2 := Lib.hid (HBI.out.below hb2)
      -- the store of what was told
      have hC4 : Ch (· = w1.heap.size) w2 ((w2.setCell ⟨w1.heap.size, 0, none⟩ (.slice va2 L2.length vcap2)).alloc (.cells #[.slice va2 L2.length vcap2] 48)) := ((Ch.refl (· = w1.heap.size) w2).set (p := ⟨w1.heap.size, 0, none⟩) (.inr rfl) _).alloc _
      have hwx := HWX.out
      obtain ⟨G5, R5, hG5, hn5⟩ := R4.grown hC4 (fun j e => by subst e; exact ⟨hG4 _ (HG3.out _ HGxr.out), by omega⟩)
      have hni : wr.heap.size ≠ w1.heap.size := by omega
      have HI5 := Lib.hid ((show ItsAt (fun j => G5 j ∧ j ≠ w1.heap.size ∧ j ≠ w.heap.size) _ _ _ from by
        have h1 := hI4b.ch hC4 (fun j e e2 => e.2.1 e2)
        exact ⟨h1.row.mono (fun j _ e => ⟨hG5 _ e.1, e.2⟩), fun p hp => (h1.tags p hp).mono (fun j _ e => ⟨hG5 _ e.1, e.2⟩)⟩))
      have HBx5 := Lib.hid (show Blk ((w2.setCell ⟨w1.heap.size, 0, none⟩ (.slice va2 L2.length vcap2)).alloc (.cells #[.slice va2 L2.length vcap2] 48)) w1.heap.size #[.slice va2 L2.length vcap2] 48 from (HBx2.out.set 0 (.slice va2 L2.length vcap2)).alloc _)
      have HBr5 := Lib.hid (HBr2.ch hC4 (by omega))
      have HBi5 := Lib.hid (HBi2.out.ch hC4 hni)
      have HR5 := Lib.hid R5
      have HGG5 := Lib.hid (show G5 w.heap.size ∧ G5 w1.heap.size ∧ G5 wr.heap.size from ⟨hG5 _ (hG4 _ (HG3.out _ HGrr.out)), hG5 _ (hG4 _ (HG3.out _ HGxr.out)), hG5 _ (hG4 _ HGi.out)⟩)
      clear hI2 hb2 hL2 hsm2 hits hL2l hL2s hcr hc R4 hG4 hn4 hI4b hsz2 HRA q1 q2 HBr2 hC4 R5 hG5 hn5 hni hwx
      obtain ⟨q1, q2⟩ := HBx2.out.cells
      obtain ⟨q3, q4⟩ := HBi2.out.cells
      have l2x := HBx2.out.lt
      have l2i := HBi2.out.lt
      go_wp2_with fail
      obtain ⟨w5, hw5⟩ : ∃ w5, w5 = (w2.setCell ⟨w1.heap.size, 0, none⟩ (.slice va2 L2.length vcap2)).alloc (.cells #[.slice va2 L2.length vcap2] 48) := ⟨_, rfl⟩
      rw [← hw5] at HI5 HBx5 HBr5 HBi5 HR5 ⊢
      clear hw5 q1 q2 q3 q4 l2x l2i HBx2 HBi2
      have hvt := HV.out.below HR5.out.ch
      have HVT := Lib.hid (hvt.tags _ HMEM.out)
      have HOWN := Lib.hid (own_any i (.slice ta i.r.tags.length tcap) w5 HVT.out)
      unfold item16V itemV at HOWN
      clear hvt
      refine HOWN.out.mono ?_
      rintro e w6 ⟨rfl, hb6⟩
      have HR6 := Lib.hid (HR5.out.below hb6)
      have HI6 := Lib.hid (HI5.out.below hb6)
      have HBx6 := Lib.hid (HBx5.out.below hb6)
      have HBr6 := Lib.hid (HBr5.out.below hb6)
      have HA := Lib.hid (HR6.out.apply i (.slice ta i.r.tags.length tcap) (HVT.out.below hb6) (fun j hj => HR6.out.old j hj) (by have := HRL.out; have := HM.out; omega) (by have := HAPP.out; have := HRL.out; have := HM.out; omega) HTLi.out rfl)
      have hlor := low_apply HLs.out HLOi.out
      have hlenr := apply_len st i
      have hcr := HCR.out
      obtain ⟨r, hr⟩ : ∃ r, applyX st i = r := ⟨_, rfl⟩
      rw [hr] at HA hlor hlenr hcr HSM2
      have HLOR := Lib.hid hlor
      have HLENR := Lib.hid hlenr
      have HCRr := Lib.hid hcr
      unfold itemV at HA
      rw [hcr] at HA
      clear hb6 HR5 HI5 HBx5 HBr5 HBi5 HOWN hlor hlenr hr hcr
      go_wp2_with fail
      refine HA.out.mono ?_
      rintro e w7 ⟨rfl, R7, c7⟩
      have HR7 := Lib.hid R7
      have HI7 := Lib.hid (HI6.out.ch c7 (fun j e h => h e.1))
      have HBx7 := Lib.hid (HBx6.out.ch c7 (fun h => h HGG5.out.2.1))
      have HBr7 := Lib.hid (HBr6.out.ch c7 (fun h => h HGG5.out.1))
      clear R7 c7 HR6 HI6 HBx6 HBr6 HA
      go_wp2_with fail
      go_roundw
      case rel => exact ⟨k + 1, _, G5, r.1, L2, (by first | rfl | (rw [HW2.out]; rfl)), HLT.out, HR7.out, HI7.out, HSM2.out, HLOR.out, (by have := HLENR.out; have := HRL.out; omega), (by have := HL2.out.1; have := HRL.out; omega), HL2.out.2, HBr7.out, HBx7.out, HGG5.out.1, HGG5.out.2.1, HWX.out⟩
      case measure => first | exact rt_meas HW2.out HLT.out | exact rt_meas2 HLT.out
    · have ht : decide ((k : Int) < (l.length : Int)) = false := by simpa using hlt
      have ht2 : decide (l.length ≤ k) = true := by simp; omega
      have ht3 : decide (k < l.length) = false := by simpa using hlt
      have HAPv := Lib.hid (fun w' (hb : Below wr.heap.size wr w') => xapplied_any w' (HRr.out.ix.below' hb))
      rw [HAPP.out] at HAPv
      obtain ⟨q1, q2⟩ := HBxr.out.cells
      obtain ⟨q3, q4⟩ := HBrr.out.cells
      have l1 := HBxr.out.lt
      have l2 := HBrr.out.lt
      have hnx : ¬ (w.heap.size = w1.heap.size) := by have := HWX.out; omega
      have heq : ((L.length : Int) == (L.length : Int)) = true := by simp
      go_wp2_with fail
      go_region_with (first
        | (go_at_call 37
           refine (HAPv.out _ (Ch.below (by (repeat (first | with_reducible assumption | with_reducible exact Ch.refl _ _ | with_reducible refine Ch.drew ?_ | with_reducible refine Ch.alloc ?_ _ | (with_reducible refine Ch.set' ?_ ?_; focus (first | (right; rfl; done) | (left; simp; done) | (left; simp; omega) | (left; omega) | (right; simp; done) | (right; simp; omega)))))))).mono ?_
           rintro e9 w9 ⟨rfl, hb9⟩
           obtain ⟨z1, z2⟩ := (HBxr.out.drew.below hb9).cells
           obtain ⟨z3, z4⟩ := (HBrr.out.drew.below hb9).cells
           have l3 := (HBrr.out.drew.below hb9).lt))
      all_goals
        go_wp2_with fail
        obtain ⟨y1, y2⟩ := (show Blk _ w.heap.size #[.slice va L.length vcap] 48 from (HBrr.out.drew.below hb9).set 0 (.slice va L.length vcap)).cells
        exact bodyPost_ret (v := .tuple #[.pointer (some ⟨x, 0, none⟩), .agg #[.slice va L.length vcap], .bool true]) (by simp [results, Try.results15, go_sem, y1]) rfl (fill_fin HRr.out HIr.out HS.out HLs.out (by have := HRL.out; omega) (by have := HRL.out; omega) HSUB.out HGrr.out hb9)
end Go.Proofs.Ytpcocmdhdnfjcaa
