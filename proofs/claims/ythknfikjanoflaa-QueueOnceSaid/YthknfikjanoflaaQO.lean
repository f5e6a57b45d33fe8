/- QueueOnce: plain law and walk. -/
import Derived.Test.YthknfikjanoflaaQT
set_option linter.unusedVariables false
set_option linter.unusedSimpArgs false
namespace Go.Proofs.Ythknfikjanoflaa
open Go.RowKit

/-- Behind a pushes and p pops of which g got something: the items g .. a - 1 are there. -/
structure OnceSt (st : QSt) (a p g : Nat) : Prop where
  l : st.l.map (·.1) = (List.range' g (a - g)).map nameF
  pu : st.pu = tab (fun _ => true) a
  po : ∀ i : Nat, p ≤ i → getA (i : Int) st.po = none
  le : g ≤ a
theorem once_push {st : QSt} {a p g : Nat} (h : OnceSt st a p g) (ha : a ≤ 1099511627776) : (addQ st (sB (bS (pushL a (nameF a))))).1.many = st.many + 1 ∧ OnceSt (addQ st (sB (bS (pushL a (nameF a))))).1 (a + 1) p g ∧ Seen (addQ st (sB (bS (pushL a (nameF a))))).1 (sB (bS (pushL a (nameF a)))) := by
  refine ⟨(addQ_len _ _).2, ?_, seen_of_add _ _⟩
  have he : (addQ st (sB (bS (pushL a (nameF a))))).1 = { st with many := st.many + 1, pu := putA (a : Int) true st.pu, l := st.l ++ [(nameF a, st.many + 1 - 1)] } := by
    unfold addQ
    rw [parse_bpush ha (by rw [nameF_size]; decide)]
    simp only [if_true]
    unfold pushQ hadF
    simp only
    rw [h.pu, tab_get _ a a, if_neg (Nat.lt_irrefl a)]
    simp only [Option.getD_none, Bool.false_eq_true, if_false]
  rw [he]
  have hle := h.le
  refine ⟨?_, ?_, h.po, by omega⟩
  · simp only [List.map_append, h.l, List.map_cons, List.map_nil]
    rw [show a + 1 - g = (a - g) + 1 by omega, List.range'_concat, List.map_append]
    simp only [List.map_cons, List.map_nil]
    rw [show g + 1 * (a - g) = a by omega]
  · simp only
    rw [h.pu]
    exact tab_put (fun _ => true) a
theorem once_pop {st : QSt} {a p g : Nat} (h : OnceSt st a p g) (hp : p ≤ 1099511627776) : (addQ st (sB (bS (popL p)))).1.many = st.many + 1 ∧ Seen (addQ st (sB (bS (popL p)))).1 (sB (bS (popL p))) ∧
    if g < a then OnceSt (addQ st (sB (bS (popL p)))).1 a (p + 1) (g + 1) ∧ getA (p : Int) (addQ st (sB (bS (popL p)))).1.po = some (nameF g, true)
    else OnceSt (addQ st (sB (bS (popL p)))).1 a (p + 1) g ∧ getA (p : Int) (addQ st (sB (bS (popL p)))).1.po = some (⟨#[]⟩, false) := by
  refine ⟨(addQ_len _ _).2, seen_of_add _ _, ?_⟩
  have h0 := h.po p (Nat.le_refl _)
  have hle := h.le
  have he : (addQ st (sB (bS (popL p)))).1 = match st.l with
      | [] => { st with many := st.many + 1, po := putA (p : Int) (⟨#[]⟩, false) st.po }
      | x :: l => { st with many := st.many + 1, l := l, po := putA (p : Int) (x.1, true) st.po } := by
    unfold addQ
    rw [parse_bpop hp]
    simp only [Bool.false_eq_true, if_false]
    unfold popQ
    simp only
    rw [h0]
    simp only [Option.isSome_none, Bool.false_eq_true, if_false]
    cases st.l <;> rfl
  rw [he]
  have hl := h.l
  have hpo : ∀ c i, p + 1 ≤ i → getA ((i : Nat) : Int) (putA (p : Int) c st.po) = none := by
    intro c i hi
    rw [getA_put, if_neg (by omega)]
    exact h.po i (by omega)
  by_cases hg : g < a
  · rw [if_pos hg]
    cases hs : st.l with
    | nil =>
      rw [hs, show a - g = (a - g - 1) + 1 by omega, List.range'_succ] at hl
      simp at hl
    | cons x l =>
      rw [hs, show a - g = (a - (g + 1)) + 1 by omega, List.range'_succ] at hl
      simp only [List.map_cons, List.cons.injEq] at hl
      simp only
      refine ⟨⟨hl.2, h.pu, hpo _, by omega⟩, ?_⟩
      rw [getA_put, if_pos rfl, hl.1]
  · rw [if_neg hg]
    cases hs : st.l with
    | nil =>
      simp only
      refine ⟨⟨by rw [show a - g = 0 by omega]; rfl, h.pu, hpo _, hle⟩, ?_⟩
      rw [getA_put, if_pos rfl]
    | cons x l =>
      rw [hs, show a - g = 0 by omega] at hl
      simp at hl
theorem OnceSt.len {st : QSt} {a p g : Nat} (h : OnceSt st a p g) : st.l.length = a - g := by
  have := congrArg List.length h.l
  simpa using this
theorem OnceSt.many {st : QSt} {a p g : Nat} (m : Nat) (h : OnceSt st a p g) : OnceSt { st with many := m } a p g := ⟨h.l, h.pu, h.po, h.le⟩

theorem QX.grow {w0 w w1 : World} {q b1 b2 : Nat} {st : QSt} {X Y S : Nat → Prop} (h : QX w0 w q b1 b2 st X) (hc : Ch S w w1) (hs : ∀ k, S k → X k) (hb : ∀ k, X k → w0.heap.size ≤ k) (hy : ∀ k, Y k → k < w1.heap.size ∧ (X k ∨ w.heap.size ≤ k)) : QX w0 w1 q b1 b2 st Y := by
  obtain ⟨vb, h1, h2, h3⟩ := h
  refine ⟨vb, h1.ch hc (fun k hk e => (h3 k (hs k e)).1 hk), h2.step hc (fun k hk e => by have := hb k (hs k e); omega), fun k hk => ⟨fun e => ?_, (hy k hk).1⟩⟩
  rcases (hy k hk).2 with h | h
  · exact (h3 k h).1 e
  · have := (h1.lt e).2
    omega

/-- The loops of QueueOnce. -/
def OnceIn (w0 : World) (q b1 b2 n : Nat) (va vp vg v : Value) (wi : World) : Prop :=
  ∃ (j a p g : Nat) (st : QSt) (u : Value), u = vg ∧ j ≤ n ∧ v = .int .i64 (j : Int) ∧ va = .int .i64 (a : Int) ∧ vp = .int .i64 (p : Int) ∧ a + p = j ∧ st.many = 2 * j ∧ OnceSt st a p g ∧ SRow wi w0.heap.size u ((List.range g).map nameF) ∧ QX w0 wi q b1 b2 st (fun k => u.ownBlock = some k)
def OnceIn2 (w0 : World) (n : Nat) (u : Value) (xs : List ByteArray) (v : Value) (wi : World) : Prop := ∃ k : Nat, k ≤ n ∧ v = .int .i64 (k : Int) ∧ SRow wi w0.heap.size u xs ∧ Ch (fun _ => False) w0 wi
def i1 (n : Int) : List Value := [.int .i64 n]

set_option maxRecDepth 100000 in
set_option maxHeartbeats 8000000 in
theorem once_main (a : Option Addr) (cap : Nat) (scr : List Int) (w : World) (ro : RowAt w a 1 i1 scr) (hl : scr.length ≤ 200) :
    Calls Try.prog 4 #[.slice a scr.length cap] w fun e w' => e = .returned (.bool true) ∧ Below w.heap.size w w' := by
  have t1 : decide ((200 : Int) < (scr.length : Int)) = false := by simp; omega
  have t2 : decide (200 < scr.length) = false := by simp; omega
  have HN := Lib.hid (qnew_any w)
  have HRO := Lib.hid ro
  clear ro
  go_enter Try.func4, Try.ntmps4
  go_wp2_with fail
  refine HN.out.mono ?_
  intro e w1 hpost
  obtain ⟨q, b1, b2, rfl, Q1⟩ := qnew_in (Ch.refl _ w) hpost
  have K1 := Lib.hid Q1
  clear HN hpost Q1
  go_wp2_with fail
  go_loopw [4, 5, 6, 33] (fun va vp vg v wi => OnceIn w q b1 b2 scr.length va vp vg v wi) (fun _ _ _ i _ => scr.length - (intOf i).toNat)
  case atStart => exact ⟨0, 0, 0, 0, qst0, _, rfl, Nat.zero_le _, rfl, rfl, rfl, rfl, rfl, ⟨rfl, rfl, fun _ _ => rfl, Nat.le_refl _⟩, SRow.nil _ _, by
    obtain ⟨vb, h1, h2⟩ := K1.out
    exact ⟨vb, h1, h2, fun k hk => by simp [Value.ownBlock] at hk⟩⟩
  case round =>
    obtain ⟨j, na, np, ng, st, u, rfl, hj, rfl, rfl, rfl, hap, hm, hO, hR, hX⟩ := hrel
    have KO := Lib.hid hO
    have KR := Lib.hid hR
    have KX := Lib.hid hX
    have hle := hO.le
    have HM := Lib.hid hm
    have hsl := hO.len
    have hsl2 : st.l.length ≤ 200 := by omega
    have hsm2 : st.many ≤ 400 := by omega
    clear hO hR hX K1 hm hsl
    by_cases hlt : j < scr.length
    · have ht : decide ((j : Int) < (scr.length : Int)) = true := by simpa using hlt
      have ht2 : decide (scr.length ≤ j) = false := by simpa using hlt
      obtain ⟨n, hp⟩ : ∃ n, scr[j]? = some n := ⟨_, List.getElem?_eq_getElem hlt⟩
      obtain ⟨b0, off, rfl, hb0, hcells⟩ := HRO.out j n hp
      have q0 : wr.cell? ⟨b0, off + j, none⟩ = some (.int .i64 n) := by
        have := (KX.out.toIn.ch.below.cell (p := ⟨b0, _, none⟩) hb0).trans (hcells 0 _ rfl)
        simpa using this
      clear hcells hp
      by_cases hev : n.tmod 2 = 0
      · have te : (n.tmod 2 == 0) = true := by simpa using hev
        have HNM := Lib.hid (name_any na wr (by omega))
        have HP := Lib.hid (fun w' => push_ok na (nameF na) w' (by omega) (by rw [nameF_size]; decide))
        have hpl := once_push KO.out (by omega)
        obtain ⟨d, hd⟩ : ∃ d, d = bS (pushL na (nameF na)) := ⟨_, rfl⟩
        have hz := pushL_len na (nameF na) (by omega) (by rw [nameF_size]; decide)
        rw [← hd] at HP hz hpl
        obtain ⟨⟨st1, ok⟩, hr⟩ : ∃ r, addQ st (sB d) = r := ⟨_, rfl⟩
        rw [hr] at hpl
        obtain ⟨m1, O1, S1⟩ := hpl
        simp only at m1 O1 S1
        have L1 := O1.len
        have HZ := Lib.hid hz
        have HA := Lib.hid hr
        have HM1 := Lib.hid m1
        have HO1 := Lib.hid O1
        have HS1 := Lib.hid S1
        have hl1 : st1.l.length ≤ 300 := by omega
        have hm1 : st1.many ≤ 500 := by omega
        clear hd hz hr m1 O1 S1 L1 hev
        go_wp2_with fail
        refine HNM.out.mono ?_
        rintro e w2 ⟨rfl, hb2⟩
        go_wp2_with fail
        refine (HP.out w2).mono ?_
        rintro e w3 ⟨rfl, hb3⟩
        have KX3 := Lib.hid ((KX.out.below hb2).below hb3)
        have KR3 := Lib.hid ((KR.out.ch (Ch.of_below (fun _ => False) hb2) (fun _ _ => id)).ch (Ch.of_below (fun _ => False) hb3) (fun _ _ => id))
        have HAD := Lib.hid (KX3.out.add d HZ.out (by omega) (by omega) HA.out)
        clear HNM HP hb2 hb3 KX KR
        go_wp2_with fail
        refine HAD.out.mono ?_
        rintro e w4 ⟨rfl, X4, c4⟩
        have KR4 := Lib.hid (KR3.out.ch c4 (fun g e h => h e))
        have HAD4 := Lib.hid (X4.add d HZ.out (by omega) (by omega) (seen_add HS1.out))
        clear HAD X4 c4 KX3 KR3
        go_wp2_with fail
        refine HAD4.out.mono ?_
        rintro e w5 ⟨rfl, X5, c5⟩
        have KR5 := Lib.hid (KR4.out.ch c5 (fun g e h => h e))
        have KX5 := Lib.hid X5
        clear HAD4 X5 c5 KR4
        go_wp2_with fail
        go_roundw
        case rel => exact ⟨j + 1, na + 1, np, ng, _, _, rfl, hlt, by simp, by simp, rfl, by omega, by have := HM.out; have := HM1.out; simp only at this ⊢; omega, HO1.out.many _, KR5.out, KX5.out⟩
        case measure => simp only [intOf]; omega
      · have te : (n.tmod 2 == 0) = false := by simpa using hev
        have HP := Lib.hid (pop_ok np wr (by omega))
        have hpl := once_pop KO.out (by omega : np ≤ 1099511627776)
        obtain ⟨d, hd⟩ : ∃ d, d = bS (popL np) := ⟨_, rfl⟩
        have hz := popL_len np (by omega)
        rw [← hd] at HP hz hpl
        obtain ⟨⟨st1, ok⟩, hr⟩ : ∃ r, addQ st (sB d) = r := ⟨_, rfl⟩
        rw [hr] at hpl
        obtain ⟨m1, S1, O1⟩ := hpl
        simp only at m1 O1 S1
        have HZ := Lib.hid hz
        have HA := Lib.hid hr
        have HM1 := Lib.hid m1
        have HS1 := Lib.hid S1
        have hl1 : st1.l.length ≤ 300 := by
          by_cases hg : ng < na
          · rw [if_pos hg] at O1
            have := O1.1.len
            omega
          · rw [if_neg hg] at O1
            have := O1.1.len
            omega
        have hm1 : st1.many ≤ 500 := by omega
        have HO1 := Lib.hid O1
        have hgr : ((List.range ng).map nameF).length = ng := by simp
        obtain ⟨xs, hxs⟩ : ∃ xs, xs = (List.range ng).map nameF := ⟨_, rfl⟩
        rw [← hxs] at KR hgr
        have HXS := Lib.hid hxs
        have HGR := Lib.hid hgr
        have hxl : xs.length ≤ 200 := by omega
        obtain ⟨au, capu, rfl, hcu⟩ := KR.out.slice
        clear hd hz hr m1 O1 S1 hev hxs hgr
        go_wp2_with fail
        refine HP.out.mono ?_
        rintro e w3 ⟨rfl, hb3⟩
        have KX3 := Lib.hid (KX.out.below hb3)
        have KR3 := Lib.hid (KR.out.ch (Ch.of_below (fun _ => False) hb3) (fun _ _ => id))
        have HAD := Lib.hid (KX3.out.add d HZ.out (by omega) (by omega) HA.out)
        clear HP hb3 KX KR
        go_wp2_with fail
        refine HAD.out.mono ?_
        rintro e w4 ⟨rfl, X4, c4⟩
        have KR4 := Lib.hid (KR3.out.ch c4 (fun g e h => h e))
        have HAD4 := Lib.hid (X4.add d HZ.out (by omega) (by omega) (seen_add HS1.out))
        clear HAD X4 c4 KX3 KR3
        go_wp2_with fail
        refine HAD4.out.mono ?_
        rintro e w5 ⟨rfl, X5, c5⟩
        have KR5 := Lib.hid (KR4.out.ch c5 (fun g e h => h e))
        have KX5 := Lib.hid X5
        have HG := X5.toIn.got (np : Int)
        clear HAD4 X5 c5 KR4
        by_cases hg : ng < na
        · have HO2 := HO1.out
          rw [if_pos hg] at HO2
          have hgv : gotV { st1 with many := st1.many + 1 } (np : Int) = .tuple #[.string (nameF ng), .bool true, .bool true] := by unfold gotV; simp only; rw [HO2.2]
          rw [hgv] at HG
          have HG := Lib.hid HG
          have HO3 := Lib.hid HO2.1
          have tg : decide (xs.length < na) = true := by rw [HGR.out]; simpa using hg
          clear hgv HO2 HO1
          go_wp2_with fail
          refine HG.out.mono ?_
          rintro e w6 ⟨rfl, hb6⟩
          have KX6 := Lib.hid (KX5.out.below hb6)
          have KR6 := Lib.hid (KR5.out.ch (Ch.of_below (fun _ => False) hb6) (fun _ _ => id))
          have KR7 := Lib.hid (KR6.out.ch (Ch.of_below (fun _ => False) (below1 w6 (.cells #[.string (nameF ng)] 9))) (fun _ _ => id))
          have hbs := KX6.out.toIn.ch.size
          clear HG hb6 KX5 KR5 KR6
          go_wp2_with (at_builtin; refine wpList_append_str rfl (.tmp 84) (.tmp 86) rfl rfl rfl KR7.out (Blk.new w6 _ _) ?c1 ?c2 ?_)
          any_goals (first | (simp; omega) | omega)
          intro g5 cap5 w7 hown5 hgrow5 hg5 hlt5
          have KX7 := Lib.hid ((KX6.out.below (below1 w6 (.cells #[.string (nameF ng)] 9))).grow (Y := fun k => (Value.slice (some ⟨g5, 0, none⟩) (xs.length + 1) cap5).ownBlock = some k) (Ch.of_grown hgrow5) (fun k e => e.symm) (fun k e => (KR7.out.own e).1) (fun k e => by
            have e2 : g5 = k := by simpa [Value.ownBlock] using e
            subst e2
            exact ⟨hlt5, by rcases hg5 with h | h; exact .inl h; right; first | exact Nat.le_of_eq h.symm | (simp; omega)⟩))
          have KR8 := Lib.hid (show SRow w7 w.heap.size (.slice (some ⟨g5, 0, none⟩) (xs.length + 1) cap5) ((List.range (ng + 1)).map nameF) from by rw [List.range_succ, List.map_append, ← HXS.out]; exact hown5)
          clear hown5 hgrow5 hg5 hlt5 KX6 KR7
          go_wp2_with fail
          go_roundw
          case rel => exact ⟨j + 1, na, np + 1, ng + 1, _, _, rfl, hlt, by simp, rfl, by simp, by omega, by have := HM.out; have := HM1.out; simp only at this ⊢; omega, HO3.out.many _, KR8.out, KX7.out⟩
          case measure => simp only [intOf]; omega
        · have HO2 := HO1.out
          rw [if_neg hg] at HO2
          have hgv : gotV { st1 with many := st1.many + 1 } (np : Int) = .tuple #[.string ⟨#[]⟩, .bool false, .bool true] := by unfold gotV; simp only; rw [HO2.2]
          rw [hgv] at HG
          have HG := Lib.hid HG
          have HO3 := Lib.hid HO2.1
          have tg : decide (xs.length < na) = false := by rw [HGR.out]; simpa using hg
          clear hgv HO2 HO1
          go_wp2_with fail
          refine HG.out.mono ?_
          rintro e w6 ⟨rfl, hb6⟩
          have KX6 := Lib.hid (KX5.out.below hb6)
          have KR6 := KR5.out.ch (Ch.of_below (fun _ => False) hb6) (fun _ _ => id)
          have HXX := HXS.out
          have KR7 := Lib.hid (show SRow w6 w.heap.size (.slice au xs.length capu) ((List.range ng).map nameF) from by rw [← HXX]; exact KR6)
          clear HG hb6 KX5 KR5 KR6 HXX
          go_wp2_with fail
          go_roundw
          case rel => exact ⟨j + 1, na, np + 1, ng, _, _, rfl, hlt, by simp, rfl, by simp, by omega, by have := HM.out; have := HM1.out; simp only at this ⊢; omega, HO3.out.many _, KR7.out, KX6.out⟩
          case measure => simp only [intOf]; omega
    · have ht : decide ((j : Int) < (scr.length : Int)) = false := by simpa using hlt
      have ht2 : decide (j < scr.length) = false := by simpa using hlt
      have HI := Lib.hid (KX.out.toIn.items (by omega))
      clear hlt
      go_wp2_with fail
      refine HI.out.mono ?_
      rintro e w2 ⟨v2, rfl, R2, hb2⟩
      have KC2 := Lib.hid (KX.out.toIn.ch.call hb2)
      have KR2 := Lib.hid (KR.out.ch (Ch.of_below (fun _ => False) hb2) (fun _ _ => id))
      have hl2 := KO.out.l
      have R2' : SRow w2 wr.heap.size v2 ((List.range' ng (na - ng)).map nameF) := by
        have e : itemsF st = (List.range' ng (na - ng)).map nameF := hl2
        rw [← e]
        exact R2
      obtain ⟨a2, cap2, rfl, RW2⟩ := R2'.row
      have HRW2 := Lib.hid RW2
      have HCAT := Lib.hid (show (List.range ng).map nameF ++ (List.range' ng (na - ng)).map nameF = (List.range na).map nameF by
        rw [← List.map_append]
        congr 1
        rw [List.range_eq_range', List.range_eq_range', show na = ng + (na - ng) by omega, ← List.range'_append_1]
        simp)
      have hgl : ((List.range ng).map nameF).length = ng := by simp
      obtain ⟨xs, hxs⟩ : ∃ xs, xs = (List.range ng).map nameF := ⟨_, rfl⟩
      obtain ⟨ys, hys⟩ : ∃ ys, ys = (List.range' ng (na - ng)).map nameF := ⟨_, rfl⟩
      have hyl : ys.length ≤ 200 := by rw [hys]; simp; omega
      rw [← hxs] at KR2 HCAT hgl
      rw [← hys] at HRW2 HCAT ⊢
      have hxl : xs.length ≤ 200 := by omega
      have hbs := KC2.out.size
      obtain ⟨au, capu, rfl, hcu⟩ := KR2.out.slice
      clear KX KR HI hb2 R2 R2' RW2 hl2 hgl hxs hys
      go_wp2_with (at_builtin; refine wpList_append_strs rfl (.tmp 91) (.tmp 93) rfl rfl rfl rfl KR2.out HRW2.out hbs (by omega) ?_)
      intro v3 w3 hown3 hgrow3
      rw [HCAT.out] at hown3
      have KR3 := Lib.hid hown3
      have KC3 := Lib.hid (KC2.out.step (Ch.of_grown hgrow3) (fun k hk e => by have := (KR2.out.own e.symm).1; omega))
      obtain ⟨a3, cap3, rfl, hc3⟩ := hown3.slice
      obtain ⟨zs, hzs⟩ : ∃ zs, zs = (List.range na).map nameF := ⟨_, rfl⟩
      have hzl : zs.length = na := by rw [hzs]; simp
      have HZ := Lib.hid (show ∀ i, i < na → zs[i]? = some (nameF i) from fun i hi => by rw [hzs]; simp [hi])
      rw [← hzs] at KR3 ⊢
      have HZL := Lib.hid hzl
      have tz : ((zs.length : Int) != (na : Int)) = false := by simp [hzl]
      have tz2 : (zs.length != na) = false := by simp [hzl]
      have hn200 : na ≤ 200 := by omega
      clear hown3 hgrow3 hzs hc3 HCAT HRW2 KR2 KC2 hzl
      go_wp2_with fail
      go_loopw [101] (fun v wi => OnceIn2 w zs.length (.slice a3 zs.length cap3) zs v wi) (fun i _ => zs.length - (intOf i).toNat)
      case atStart => exact ⟨0, Nat.zero_le _, rfl, KR3.out, KC3.out⟩
      case round =>
        obtain ⟨i, hi, rfl, RA, CC⟩ := hrel
        have KA := Lib.hid RA
        have KC := Lib.hid CC
        clear RA CC KR3 KC3
        by_cases hlt : i < zs.length
        · have ht5 : decide ((i : Int) < (zs.length : Int)) = true := by simpa using hlt
          have ht6 : decide (zs.length ≤ i) = false := by simpa using hlt
          have hin : i < na := by rw [← HZL.out]; exact hlt
          obtain ⟨g1, c1, e1, hc1⟩ := KA.out.at (HZ.out i hin)
          cases e1
          have HNM := Lib.hid (name_any i wr (by omega))
          go_wp2_with fail
          refine HNM.out.mono ?_
          rintro e w5 ⟨rfl, hb5⟩
          have KA2 := Lib.hid (KA.out.ch (Ch.of_below (fun _ => False) hb5) (fun _ _ => id))
          have KC2 := Lib.hid (KC.out.call hb5)
          clear KA KC HNM hb5 hc1
          go_wp2_with fail
          go_roundw
          case rel => exact ⟨i + 1, hlt, by simp, KA2.out, KC2.out⟩
          case measure => simp only [intOf]; omega
        · have ht5 : decide ((i : Int) < (zs.length : Int)) = false := by simpa using hlt
          have ht6 : decide (i < zs.length) = false := by simpa using hlt
          go_wp2_with fail
          refine (alive_any _).mono ?_
          rintro e w9 ⟨rfl, hb9⟩
          go_wp2_with fail
          go_ret
          exact ⟨rfl, (KC.out.call hb9).below⟩

set_option maxRecDepth 100000 in
set_option maxHeartbeats 4000000 in
theorem once_long (a : Option Addr) (len cap : Nat) (w : World) (hl : 200 < len) :
    Calls Try.prog 4 #[.slice a len cap] w fun e w' => e = .returned (.bool true) ∧ Below w.heap.size w w' := by
  have t1 : decide ((200 : Int) < (len : Int)) = true := by simp; omega
  have t2 : decide (200 < len) = true := by simp; omega
  have HN := Lib.hid (qnew_any w)
  clear hl
  go_enter Try.func4, Try.ntmps4
  go_wp2_with fail
  refine HN.out.mono ?_
  intro e w1 hpost
  obtain ⟨q, b1, b2, rfl, Q1⟩ := qnew_in (Ch.refl _ w) hpost
  have K1 := Lib.hid Q1
  clear HN hpost Q1
  go_wp2_with fail
  refine (alive_any _).mono ?_
  rintro e w7 ⟨rfl, hb7⟩
  go_wp2_with fail
  go_ret
  exact ⟨rfl, (K1.out.ch.call hb7).below⟩

theorem flatI : Flat Try.prog 3 i1 (fun n => (Lit.int .i64 n).wf = true) := Flat.int Try.underlying3
/-- QueueOnce answers true. -/
theorem once_row (a : Option Addr) (cap : Nat) (scr : List Int) (w : World) (hlc : scr.length ≤ cap) (ro : RowAt w a 1 i1 scr) (hd : ∀ n ∈ scr, (Lit.int .i64 n).wf = true) (hl : scr.length * 8 ≤ 140737488351232) :
    Calls Try.prog 4 #[.slice a scr.length cap] w fun e w' => e = .returned (.bool true) ∧ Below w.heap.size w w' := by
  by_cases h : scr.length ≤ 200
  · exact once_main a cap scr w ro h
  · exact once_long a scr.length cap w (by omega)
end Go.Proofs.Ythknfikjanoflaa
