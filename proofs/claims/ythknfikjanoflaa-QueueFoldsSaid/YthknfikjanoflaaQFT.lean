/- The reference's Takes and There. -/
import Derived.Test.YthknfikjanoflaaQFR
set_option linter.unusedVariables false
set_option linter.unusedSimpArgs false
namespace Go.Proofs.Ythknfikjanoflaa
open Go.RowKit

def evP (d : ByteArray) : Ev := (PE d).getD ⟨false, 0, ⟨#[]⟩⟩
theorem rparse_ev (d : ByteArray) (w : World) (hs : d.size ≤ 140737488351232) {p : Bool} {n : Nat} {s : ByteArray} (hp : evP d = ⟨p, n, s⟩) :
    Calls Try.prog 14 #[.string d] w fun e w' => e = .returned (.tuple #[.agg #[.bool p, .int .i64 (n : Nat), .string s], .bool (PE d).isSome]) ∧ Below w.heap.size w w' := by
  have h := rparse_any d w hs
  rw [peV] at h
  unfold evP at hp
  cases hpe : PE d with
  | none =>
    rw [hpe] at h hp
    simp only [Option.getD_none] at hp
    cases hp
    exact h
  | some e =>
    rw [hpe] at h hp
    simp only [Option.getD_some] at hp
    rw [hp] at h
    exact h
theorem pushAt_ev {log : List ByteArray} {k : Nat} {d : ByteArray} (hd : log[k]? = some d) {p : Bool} {n : Nat} {s : ByteArray} (hp : evP d = ⟨p, n, s⟩) : pushAt log k = p := by
  unfold pushAt evAt
  rw [hd]
  unfold evP at hp
  simp only
  cases h : PE d with
  | none => rw [h] at hp; simp only [Option.getD_none] at hp; cases hp; rfl
  | some e => rw [h] at hp; simp only [Option.getD_some] at hp; rw [hp]
/-- What a pop gets of the data from m on. -/
def gotJ (log : List ByteArray) (outs : List Int) (k m : Nat) : Int := match ((List.range k).drop m).find? (freeB log outs) with
  | some j => (j : Int)
  | none => -1
theorem gotJ_last (log : List ByteArray) (outs : List Int) (k : Nat) : gotJ log outs k k = -1 := by
  unfold gotJ
  rw [List.drop_of_length_le (by simp)]
  rfl
theorem gotJ_step (log : List ByteArray) (outs : List Int) {k m : Nat} (h : m < k) : gotJ log outs k m = if freeB log outs m = true then (m : Int) else gotJ log outs k (m + 1) := by
  unfold gotJ
  rw [List.drop_eq_getElem_cons (by simpa using h), List.find?_cons]
  simp only [List.getElem_range]
  cases freeB log outs m <;> simp
theorem gotJ_zero {log : List ByteArray} {outs : List Int} {k : Nat} (h : (countsF log k && !pushAt log k) = true) : gotJ log outs k 0 = gotF log outs k := by
  unfold gotF
  rw [if_pos h]
  rfl
theorem gotF_none {log : List ByteArray} {outs : List Int} {k : Nat} (h : (countsF log k && !pushAt log k) = false) : gotF log outs k = -1 := by
  unfold gotF
  rw [h]
  rfl
theorem takesN_succ (log : List ByteArray) (k : Nat) : takesN log (k + 1) = takesN log k ++ [gotF log (takesN log k) k] := rfl

def cntL (log : List ByteArray) (k : Nat) : List Bool := (List.range k).map (countsF log)
theorem cntL_succ (log : List ByteArray) (k : Nat) : cntL log (k + 1) = cntL log k ++ [countsF log k] := by simp [cntL, List.range_succ]
theorem cntL_len (log : List ByteArray) (k : Nat) : (cntL log k).length = k := by simp [cntL]
theorem cntL_at (log : List ByteArray) {k j : Nat} (h : j < k) : (cntL log k)[j]? = some (countsF log j) := by
  unfold cntL
  rw [List.getElem?_map, List.getElem?_range h]
  rfl

/-- Takes' loop. -/
def TkIn (w : World) (log : List ByteArray) (v3 v4 v5 : Value) (wi : World) : Prop :=
  ∃ k : Nat, k ≤ log.length ∧ v5 = .int .i64 (k : Nat) ∧ ORow 1 bO wi w.heap.size v3 (cntL log k) ∧ ORow 1 iO wi w.heap.size v4 (takesN log k) ∧ (∀ g, v3.ownBlock = some g → v4.ownBlock ≠ some g) ∧ Ch (fun _ => False) w wi
/-- One row of two grows; the other one stays. -/
theorem tk_app {α β : Type} {o1 : α → List Value} {o2 : β → List Value} {w wr wa w5 : World} {v u : Value} {g off cap n : Nat} {cs : List α} {os : List β} (hu : ORow 1 o2 wr w.heap.size u os) (hd : ∀ g, v.ownBlock = some g → u.ownBlock ≠ some g) (hc : Ch (fun _ => False) w wr)
    (hv : ORow 1 o1 wr w.heap.size v cs) (hb : Ch (fun _ => False) wr wa) (hgrow : wa.grownBy w5 v.ownBlock) (hg : v.ownBlock = some g ∨ wa.heap.size ≤ g) :
    ORow 1 o2 w5 w.heap.size u os ∧ (∀ k, (Value.slice (some ⟨g, off, none⟩) n cap).ownBlock = some k → u.ownBlock ≠ some k) ∧ Ch (fun _ => False) w w5 := by
  have hca : Ch (fun k => v.ownBlock = some k) wa w5 := (Ch.of_grown hgrow).mono (fun k e => e.symm)
  refine ⟨(hu.ch hb (fun _ _ => id)).ch hca (fun k hk e => hd k e hk), fun k hk e => ?_, (hc.trans hb).step hca (fun k hk e => ?_)⟩
  · simp only [Value.ownBlock, Option.some.injEq] at hk
    subst hk
    rcases hg with hg | hg
    · exact hd _ hg e
    · have := (hu.own e).2
      have := hb.size
      omega
  · have := (hv.own e).1
    omega
/-- Takes' inner loop. -/
def TkJ (wL : World) (log : List ByteArray) (outs : List Int) (k : Nat) (al : Bool) (v8 v9 : Value) (wi : World) : Prop :=
  ∃ m : Nat, m ≤ k ∧ (al = false → m = k) ∧ v9 = .int .i64 ((m : Int) - 1) ∧ v8 = .int .i64 (gotJ log outs k m) ∧ Ch (fun _ => False) wL wi
theorem freeB_eq {log : List ByteArray} {outs : List Int} {j : Nat} {c p : Bool} (hc : countsF log j = c) (hp : pushAt log j = p) : freeB log outs j = (c && p && !(outs.contains (j : Int))) := by unfold freeB; rw [hc, hp]
set_option maxRecDepth 100000 in
set_option maxHeartbeats 4000000 in
theorem takes_any (a : Option Addr) (cap : Nat) (log : List ByteArray) (w : World) (ro : RowAt w a 1 oS log) (hl : log.length ≤ 24) (hd : ∀ d ∈ log, d.size ≤ 140737488351232) :
    Calls Try.prog 23 #[.slice a log.length cap] w fun e w' => ∃ v, e = .returned v ∧ ORow 1 iO w' w.heap.size v (takesN log log.length) ∧ Ch (fun _ => False) w w' := by
  have HRO := Lib.hid ro
  have HD := Lib.hid hd
  clear ro hd
  go_enter Try.func23, Try.ntmps23
  go_wp2_with fail
  go_loopw [3, 4, 5] (fun v3 v4 v5 wi => TkIn w log v3 v4 v5 wi) (fun _ _ v _ => log.length - (intOf v).toNat)
  case atStart => exact ⟨0, Nat.zero_le _, rfl, ORow.nil _ _, ORow.nil _ _, fun _ h => by simp [Value.ownBlock] at h, Ch.refl _ _⟩
  case round =>
    obtain ⟨k, hk, rfl, h3, h4, hdis, C1⟩ := hrel
    have K3 := Lib.hid h3
    have K4 := Lib.hid h4
    have KD := Lib.hid hdis
    have KC := Lib.hid C1
    clear h3 h4 hdis C1
    by_cases hlt : k < log.length
    · have ht : decide ((k : Int) < (log.length : Int)) = true := by simpa using hlt
      have ht2 : decide (log.length ≤ k) = false := by simpa using hlt
      obtain ⟨d, hp⟩ : ∃ x, log[k]? = some x := ⟨_, List.getElem?_eq_getElem hlt⟩
      have HRW := Lib.hid (HRO.out.below KC.out.below)
      have HDD := Lib.hid (HD.out d (List.mem_of_getElem? hp))
      have HP := Lib.hid hp
      have HCN := Lib.hid (counts_any a cap log k wr HRW.out HD.out hlt (by omega))
      obtain ⟨ck, hck⟩ : ∃ c, countsF log k = c := ⟨_, rfl⟩
      have HCK := Lib.hid hck
      clear hp hck
      go_wp2_with fail
      refine HCN.out.mono ?_
      rintro e w1 ⟨rfl, hb1⟩
      have KA := Lib.hid ((Ch.of_below (fun _ => False) hb1).alloc (.cells #[.bool (countsF log k)] 4))
      have KB := Lib.hid (Blk.new w1 #[.bool (countsF log k)] 4)
      have K3' := Lib.hid (K3.out.ch KA.out (fun _ _ => id))
      have hbs := (KC.out.trans KA.out).size
      have hcl := cntL_len log k
      clear hb1 HCN
      rw [HCK.out] at KA KB K3' hbs ⊢
      go_wp2_with (at_builtin; refine wpList_append_bool rfl (.tmp 18) (.tmp 22) rfl rfl rfl K3'.out KB.out hbs (by omega) ?_)
      intro g5 off5 cap5 w5 hown5 hgrow5 hg5
      obtain ⟨r1, r2, r3⟩ := tk_app (off := off5) (cap := cap5) (n := k + 1) K4.out KD.out KC.out K3.out KA.out hgrow5 (hg5.imp id (fun h => by simpa using h))
      have K3d := Lib.hid (show ORow 1 bO w5 w.heap.size (.slice (some ⟨g5, off5, none⟩) (k + 1) cap5) (cntL log (k + 1)) from by rw [cntL_succ, HCK.out]; exact hown5)
      have K4d := Lib.hid r1
      have KDe := Lib.hid r2
      have KCd := Lib.hid r3
      obtain ⟨⟨ep, en, es⟩, hev⟩ : ∃ e, evP d = e := ⟨_, rfl⟩
      have HPX := Lib.hid (rparse_ev d w5 HDD.out hev)
      have HPU := Lib.hid (pushAt_ev HP.out hev)
      obtain ⟨b0, off, rfl, hb0, hcells⟩ := HRO.out k d HP.out
      have q0 : w5.cell? ⟨b0, off + k, none⟩ = some (.string d) := by
        have := (KCd.out.below.cell (p := ⟨b0, _, none⟩) hb0).trans (hcells 0 _ rfl)
        simpa using this
      clear hown5 hgrow5 hg5 r1 r2 r3 hcl hev hcells KA KB K3' K3 K4 KD KC HRW hbs
      go_wp2_with fail
      refine HPX.out.mono ?_
      rintro e w6 ⟨rfl, hb6⟩
      have C6 := (Ch.of_below (fun _ => False) hb6).alloc (.cells #[.bool ep, .int .i64 (en : Nat), .string es] 27)
      have KCe := Lib.hid (KCd.out.trans C6)
      have K3e := Lib.hid (K3d.out.ch C6 (fun _ _ => id))
      have K4e := Lib.hid (K4d.out.ch C6 (fun _ _ => id))
      have KEe := Lib.hid (Blk.new w6 #[.bool ep, .int .i64 (en : Nat), .string es] 27)
      have hk1 : wrap64 ((k : Int) - 1) = (k : Int) - 1 := IntWalk.wrap64_in _ (by omega)
      have hk2 : wrap64 ((k : Int) + 1) = (k : Int) + 1 := IntWalk.wrap64_in _ (by omega)
      clear C6 hb6 q0 K3d K4d KCd HPX
      go_wp2_with fail
      go_loopw [8, 9] (fun v8 v9 wi => TkJ (w6.alloc (.cells #[.bool ep, .int .i64 (en : Nat), .string es] 27)) log (takesN log k) k (ck && !ep) v8 v9 wi) (fun _ v _ => (intOf v + 1).toNat)
      case atStart => exact ⟨k, Nat.le_refl _, fun _ => rfl, rfl, by rw [gotJ_last], Ch.refl _ _⟩
      case round =>
        obtain ⟨m, hm, hal, hv9, hv8, C7⟩ := hrel
        have KJ := Lib.hid C7
        have KAL := Lib.hid hal
        have KEr := Lib.hid (KEe.out.ch C7 id)
        clear C7 hal
        by_cases hm0 : m = 0
        · have hG : gotJ log (takesN log k) k m = gotF log (takesN log k) k := by
            cases h : (ck && !ep) with
            | true => rw [hm0, gotJ_zero (by rw [HCK.out, HPU.out]; exact h)]
            | false => rw [KAL.out h, gotJ_last, gotF_none (by rw [HCK.out, HPU.out]; exact h)]
          subst hm0
          subst hv9
          clear KAL
          have HGF := Lib.hid hG
          rw [hG] at hv8
          subst hv8
          have K4w := Lib.hid (K4e.out.ch KJ.out (fun _ _ => id))
          have K3w := Lib.hid (K3e.out.ch KJ.out (fun _ _ => id))
          have KCw := Lib.hid (KCe.out.trans KJ.out)
          obtain ⟨G, hGv⟩ : ∃ G, gotF log (takesN log k) k = G := ⟨_, rfl⟩
          have HG := Lib.hid hGv
          rw [hGv]
          have KA2 := Lib.hid ((Ch.refl (fun _ => False) wr).alloc (.cells #[.int .i64 G] 3))
          have KB2 := Lib.hid (Blk.new wr #[.int .i64 G] 3)
          have K4v := Lib.hid (K4w.out.ch KA2.out (fun _ _ => id))
          have hbs2 := (KCw.out.trans KA2.out).size
          have hkl := takesN_len log k
          clear hG hGv KJ KEr
          go_wp2_with (at_builtin; refine wpList_append_int rfl (.tmp 72) (.tmp 74) rfl rfl rfl K4v.out KB2.out hbs2 (by omega) ?_)
          intro g6 off6 cap6 w8 hown6 hgrow6 hg6
          obtain ⟨r1, r2, r3⟩ := tk_app (off := off6) (cap := cap6) (n := k + 1) K3w.out (fun g h1 h2 => KDe.out g h2 h1) KCw.out K4w.out KA2.out hgrow6 (hg6.imp id (fun h => by simpa using h))
          have R0 := Lib.hid (show ORow 1 iO w8 w.heap.size (.slice (some ⟨g6, off6, none⟩) (k + 1) cap6) (takesN log (k + 1)) from by rw [takesN_succ, HG.out]; exact hown6)
          have R1 := Lib.hid r1
          have R2 := Lib.hid r2
          have R3 := Lib.hid r3
          clear hown6 hgrow6 hg6 r1 r2 r3 hkl K4v KA2 KB2
          go_wp2_with fail
          go_roundw
          case rel => exact ⟨k + 1, hlt, by simp, R1.out, R0.out, fun g h1 h2 => R2.out g h2 h1, R3.out⟩
          case measure => simp only [intOf]; omega
        · obtain ⟨j, rfl⟩ : ∃ j, m = j + 1 := ⟨m - 1, by omega⟩
          rw [show ((j + 1 : Nat) : Int) - 1 = (j : Int) by omega] at hv9
          subst hv9
          have t0 : decide ((0 : Int) ≤ (j : Int)) = true := by simp
          have hkk : (cntL log (k + 1))[k]? = some ck := by rw [cntL_at log (Nat.lt_succ_self k), HCK.out]
          obtain ⟨g, o1, c1, e1, hat⟩ := (K3e.out.ch KJ.out (fun _ _ => id)).at bO_len hkk
          rw [cntL_len] at e1
          cases e1
          have y0 : wr.cell? ⟨g5, off5 + k, none⟩ = some (.bool ck) := by simpa using hat 0 _ rfl
          have t1 : decide (k + 1 ≤ k) = false := by simp
          have hjk : j < k := by omega
          have HJK := Lib.hid hjk
          clear hat hkk hm0
          cases hck2 : ck with
          | false =>
            have hG : gotJ log (takesN log k) k (j + 1) = gotF log (takesN log k) k := by rw [KAL.out (by rw [hck2]; rfl), gotJ_last, gotF_none (by rw [HCK.out, hck2]; rfl)]
            subst hck2
            clear KAL
            have HGF := Lib.hid hG
            rw [hG] at hv8
            subst hv8
            have K4w := Lib.hid (K4e.out.ch KJ.out (fun _ _ => id))
            have K3w := Lib.hid (K3e.out.ch KJ.out (fun _ _ => id))
            have KCw := Lib.hid (KCe.out.trans KJ.out)
            obtain ⟨G, hGv⟩ : ∃ G, gotF log (takesN log k) k = G := ⟨_, rfl⟩
            have HG := Lib.hid hGv
            rw [hGv]
            have KA2 := Lib.hid ((Ch.refl (fun _ => False) wr).alloc (.cells #[.int .i64 G] 3))
            have KB2 := Lib.hid (Blk.new wr #[.int .i64 G] 3)
            have K4v := Lib.hid (K4w.out.ch KA2.out (fun _ _ => id))
            have hbs2 := (KCw.out.trans KA2.out).size
            have hkl := takesN_len log k
            clear hG hGv KJ KEr
            go_wp2_with (at_builtin; refine wpList_append_int rfl (.tmp 72) (.tmp 74) rfl rfl rfl K4v.out KB2.out hbs2 (by omega) ?_)
            intro g6 off6 cap6 w8 hown6 hgrow6 hg6
            obtain ⟨r1, r2, r3⟩ := tk_app (off := off6) (cap := cap6) (n := k + 1) K3w.out (fun g h1 h2 => KDe.out g h2 h1) KCw.out K4w.out KA2.out hgrow6 (hg6.imp id (fun h => by simpa using h))
            have R0 := Lib.hid (show ORow 1 iO w8 w.heap.size (.slice (some ⟨g6, off6, none⟩) (k + 1) cap6) (takesN log (k + 1)) from by rw [takesN_succ, HG.out]; exact hown6)
            have R1 := Lib.hid r1
            have R2 := Lib.hid r2
            have R3 := Lib.hid r3
            clear hown6 hgrow6 hg6 r1 r2 r3 hkl K4v KA2 KB2
            go_wp2_with fail
            go_roundw
            case rel => exact ⟨k + 1, hlt, by simp, R1.out, R0.out, fun g h1 h2 => R2.out g h2 h1, R3.out⟩
            case measure => simp only [intOf]; omega
          | true =>
            subst hck2
            obtain ⟨z1, z2⟩ := KEr.out.cells
            cases hep : ep with
            | true =>
              have hG : gotJ log (takesN log k) k (j + 1) = gotF log (takesN log k) k := by rw [KAL.out (by rw [hep]; rfl), gotJ_last, gotF_none (by rw [HPU.out, hep]; simp)]
              subst hep
              clear KAL
              have HGF := Lib.hid hG
              rw [hG] at hv8
              subst hv8
              have K4w := Lib.hid (K4e.out.ch KJ.out (fun _ _ => id))
              have K3w := Lib.hid (K3e.out.ch KJ.out (fun _ _ => id))
              have KCw := Lib.hid (KCe.out.trans KJ.out)
              obtain ⟨G, hGv⟩ : ∃ G, gotF log (takesN log k) k = G := ⟨_, rfl⟩
              have HG := Lib.hid hGv
              rw [hGv]
              have KA2 := Lib.hid ((Ch.refl (fun _ => False) wr).alloc (.cells #[.int .i64 G] 3))
              have KB2 := Lib.hid (Blk.new wr #[.int .i64 G] 3)
              have K4v := Lib.hid (K4w.out.ch KA2.out (fun _ _ => id))
              have hbs2 := (KCw.out.trans KA2.out).size
              have hkl := takesN_len log k
              clear hG hGv KJ KEr
              go_wp2_with (at_builtin; refine wpList_append_int rfl (.tmp 72) (.tmp 74) rfl rfl rfl K4v.out KB2.out hbs2 (by omega) ?_)
              intro g6 off6 cap6 w8 hown6 hgrow6 hg6
              obtain ⟨r1, r2, r3⟩ := tk_app (off := off6) (cap := cap6) (n := k + 1) K3w.out (fun g h1 h2 => KDe.out g h2 h1) KCw.out K4w.out KA2.out hgrow6 (hg6.imp id (fun h => by simpa using h))
              have R0 := Lib.hid (show ORow 1 iO w8 w.heap.size (.slice (some ⟨g6, off6, none⟩) (k + 1) cap6) (takesN log (k + 1)) from by rw [takesN_succ, HG.out]; exact hown6)
              have R1 := Lib.hid r1
              have R2 := Lib.hid r2
              have R3 := Lib.hid r3
              clear hown6 hgrow6 hg6 r1 r2 r3 hkl K4v KA2 KB2
              go_wp2_with fail
              go_roundw
              case rel => exact ⟨k + 1, hlt, by simp, R1.out, R0.out, fun g h1 h2 => R2.out g h2 h1, R3.out⟩
              case measure => simp only [intOf]; omega
            | false =>
              subst hep
              have HV8 := Lib.hid hv8
              have t2 : decide (log.length ≤ j) = false := by simp; omega
              have t3 : decide (k + 1 ≤ j) = false := by simp; omega
              have t4 : decide (k ≤ j) = false := by simp; omega
              have hk3 : wrap64 ((j : Int) - 1) = (j : Int) - 1 := IntWalk.wrap64_in _ (by omega)
              obtain ⟨y, hy⟩ : ∃ x, log[j]? = some x := ⟨_, List.getElem?_eq_getElem (by omega)⟩
              obtain ⟨⟨fp, fn, fs⟩, hfv⟩ : ∃ e, evP y = e := ⟨_, rfl⟩
              have HPY := Lib.hid (rparse_ev y wr (HD.out y (List.mem_of_getElem? hy)) hfv)
              have HPU2 := Lib.hid (pushAt_ev hy hfv)
              obtain ⟨b1, o2, e1, hb1, hcells⟩ := HRO.out j y hy
              cases e1
              have KCr := Lib.hid (KCe.out.trans KJ.out)
              have q1 : wr.cell? ⟨b0, off + j, none⟩ = some (.string y) := by
                have := (KCr.out.below.cell (p := ⟨b0, _, none⟩) hb1).trans (hcells 0 _ rfl)
                simpa using this
              obtain ⟨cj, hcj⟩ : ∃ c, countsF log j = c := ⟨_, rfl⟩
              have HCJ := Lib.hid hcj
              have HGS := Lib.hid (gotJ_step log (takesN log k) hjk)
              clear hy hfv hcells hcj hv8 KAL
              go_wp2_with fail
              refine HPY.out.mono ?_
              rintro e w9 ⟨rfl, hb9⟩
              have C8 := Lib.hid ((KJ.out.call hb9).alloc (.cells #[.bool fp, .int .i64 (fn : Nat), .string fs] 27))
              have K3w := Lib.hid (K3e.out.ch C8.out (fun _ _ => id))
              have K4w := Lib.hid (K4e.out.ch C8.out (fun _ _ => id))
              obtain ⟨z3, z4⟩ := (Blk.new w9 #[.bool fp, .int .i64 (fn : Nat), .string fs] 27).cells
              have hjj : (cntL log (k + 1))[j]? = some cj := by rw [cntL_at log (by omega), HCJ.out]
              obtain ⟨g, o1, c1, e1, hat⟩ := K3w.out.at bO_len hjj
              rw [cntL_len] at e1
              cases e1
              have y1 : (w9.alloc (.cells #[.bool fp, .int .i64 (fn : Nat), .string fs] 27)).cell? ⟨g5, off5 + j, none⟩ = some (.bool cj) := by simpa using hat 0 _ rfl
              have y2 : w9.cell? ⟨g5, off5 + j, none⟩ = some (.bool cj) := by
                obtain ⟨g, o1, c1, e1, hat⟩ := (K3e.out.ch (KJ.out.call hb9) (fun _ _ => id)).at bO_len hjj
                rw [cntL_len] at e1
                cases e1
                simpa using hat 0 _ rfl
              clear hat hjj hb9 HPY KJ KEr q1 y0 z1 z2
              cases hc2 : cj with
              | false =>
                have HF := Lib.hid (freeB_eq (outs := takesN log k) (hc2 ▸ HCJ.out) HPU2.out)
                subst hc2
                obtain hv8 := HV8.out
                subst hv8
                go_wp2_with fail
                go_roundw
                case rel => exact ⟨j, by omega, fun h => by simp at h, rfl, by rw [HGS.out, HF.out]; simp, C8.out⟩
                case measure => simp only [intOf]; omega
              | true =>
                cases hf2 : fp with
                | false =>
                  have HF := Lib.hid (freeB_eq (outs := takesN log k) (hc2 ▸ HCJ.out) (hf2 ▸ HPU2.out))
                  subst hc2 hf2
                  obtain hv8 := HV8.out
                  subst hv8
                  go_wp2_with fail
                  go_roundw
                  case rel => exact ⟨j, by omega, fun h => by simp at h, rfl, by rw [HGS.out, HF.out]; simp, C8.out⟩
                  case measure => simp only [intOf]; omega
                | true =>
                  have HF := Lib.hid (freeB_eq (outs := takesN log k) (hc2 ▸ HCJ.out) (hf2 ▸ HPU2.out))
                  obtain ⟨a4, c4, e4, _, _⟩ := K4w.out.slice
                  have hkl := takesN_len log k
                  rw [hkl] at e4
                  have HT := taken_any a4 c4 (takesN log k) (j : Int) (w9.alloc (.cells #[.bool fp, .int .i64 (fn : Nat), .string fs] 27)) w.heap.size (by rw [hkl, ← e4]; exact K4w.out) (by omega)
                  rw [hkl] at HT
                  obtain ⟨tk, htk⟩ : ∃ t, (takesN log k).contains (j : Int) = t := ⟨_, rfl⟩
                  rw [htk] at HT HF
                  have HT := Lib.hid HT
                  clear htk hkl
                  subst hc2 hf2
                  obtain hv8 := HV8.out
                  subst hv8
                  subst e4
                  go_wp2_with fail
                  refine HT.out.mono ?_
                  rintro e w10 ⟨rfl, hb10⟩
                  have C10 := Lib.hid (C8.out.call hb10)
                  clear HT hb10 C8 y1 y2 z3 z4
                  cases tk with
                  | true =>
                    go_wp2_with fail
                    go_roundw
                    case rel => exact ⟨j, by omega, fun h => by simp at h, rfl, by rw [HGS.out, HF.out]; simp, C10.out⟩
                    case measure => simp only [intOf]; omega
                  | false =>
                    go_wp2_with fail
                    go_roundw
                    case rel => exact ⟨j, by omega, fun h => by simp at h, rfl, by rw [HGS.out, HF.out]; simp, C10.out⟩
                    case measure => simp only [intOf]; omega
    · have ht : decide ((k : Int) < (log.length : Int)) = false := by simpa using hlt
      have hkl : k = log.length := by omega
      subst hkl
      clear hlt
      go_wp2_with fail
      go_ret
      exact ⟨_, rfl, K4.out, KC.out⟩
end Go.Proofs.Ythknfikjanoflaa
