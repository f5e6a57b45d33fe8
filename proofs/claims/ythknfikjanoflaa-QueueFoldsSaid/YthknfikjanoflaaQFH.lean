/- The reference's There. -/
import Derived.Test.YthknfikjanoflaaQFT
set_option linter.unusedVariables false
set_option linter.unusedSimpArgs false
namespace Go.Proofs.Ythknfikjanoflaa
open Go.RowKit
/-- There's loop. -/
def ThIn (w : World) (log : List ByteArray) (vt v3 v5 : Value) (wi : World) : Prop :=
  ∃ k : Nat, k ≤ log.length ∧ v5 = .int .i64 (k : Nat) ∧ ORow 1 iO wi w.heap.size v3 (((List.range k).filter (freeB log (takesN log log.length))).map fun j : Nat => (j : Int)) ∧ ORow 1 iO wi w.heap.size vt (takesN log log.length) ∧ (∀ g, v3.ownBlock = some g → vt.ownBlock ≠ some g) ∧ Ch (fun _ => False) w wi

theorem keep_no {p : Nat → Bool} {k : Nat} (h : p k = false) : ((List.range (k + 1)).filter p).map (fun j : Nat => (j : Int)) = ((List.range k).filter p).map fun j : Nat => (j : Int) := by rw [List.range_succ, List.filter_append]; simp [h]
theorem keep_yes {p : Nat → Bool} {k : Nat} (h : p k = true) : ((List.range (k + 1)).filter p).map (fun j : Nat => (j : Int)) = ((List.range k).filter p).map (fun j : Nat => (j : Int)) ++ [(k : Int)] := by rw [List.range_succ, List.filter_append]; simp [h]

set_option maxRecDepth 100000 in
set_option maxHeartbeats 4000000 in
theorem there_any (a : Option Addr) (cap : Nat) (log : List ByteArray) (w : World) (ro : RowAt w a 1 oS log) (hl : log.length ≤ 24) (hd : ∀ d ∈ log, d.size ≤ 140737488351232) :
    Calls Try.prog 24 #[.slice a log.length cap] w fun e w' => ∃ v, e = .returned v ∧ ORow 1 iO w' w.heap.size v ((thereN log log.length).map fun j : Nat => (j : Int)) ∧ Ch (fun _ => False) w w' := by
  have HTK := Lib.hid (takes_any a cap log w ro hl hd)
  have HRO := Lib.hid ro
  have HD := Lib.hid hd
  clear ro hd
  go_enter Try.func24, Try.ntmps24
  go_wp2_with fail
  refine HTK.out.mono ?_
  rintro e w1 ⟨vt, rfl, h1, h2⟩
  have KT := Lib.hid h1
  have KC := Lib.hid h2
  clear h1 h2 HTK
  obtain ⟨a4, c4, e4, _, _⟩ := KT.out.slice
  rw [takesN_len] at e4
  subst e4
  go_wp2_with fail
  go_loopw [3, 5] (fun v3 v5 wi => ThIn w log (.slice a4 log.length c4) v3 v5 wi) (fun _ v _ => log.length - (intOf v).toNat)
  case atStart => exact ⟨0, Nat.zero_le _, rfl, ORow.nil _ _, KT.out, fun _ h => by simp [Value.ownBlock] at h, KC.out⟩
  case round =>
    obtain ⟨k, hk, rfl, h3, h4, hdis, C1⟩ := hrel
    clear KT KC
    have K3 := Lib.hid h3
    have KT := Lib.hid h4
    have KD := Lib.hid hdis
    have KC := Lib.hid C1
    clear h3 h4 hdis C1
    by_cases hlt : k < log.length
    · have ht : decide ((k : Int) < (log.length : Int)) = true := by simpa using hlt
      have ht2 : decide (log.length ≤ k) = false := by simpa using hlt
      have hk2 : wrap64 ((k : Int) + 1) = (k : Int) + 1 := IntWalk.wrap64_in _ (by omega)
      obtain ⟨d, hp⟩ : ∃ x, log[k]? = some x := ⟨_, List.getElem?_eq_getElem hlt⟩
      obtain ⟨⟨ep, en, es⟩, hev⟩ : ∃ e, evP d = e := ⟨_, rfl⟩
      have HPX := Lib.hid (rparse_ev d wr (HD.out d (List.mem_of_getElem? hp)) hev)
      have HPU := Lib.hid (pushAt_ev hp hev)
      have HKEEP := Lib.hid (show ∀ (v : Value) (wj : World), freeB log (takesN log log.length) k = false → ORow 1 iO wj w.heap.size v (((List.range k).filter (freeB log (takesN log log.length))).map fun j : Nat => (j : Int)) → ORow 1 iO wj w.heap.size v (((List.range (k + 1)).filter (freeB log (takesN log log.length))).map fun j : Nat => (j : Int)) from fun v wj hf h => by rw [keep_no hf]; exact h)
      obtain ⟨b0, off, ea, hb0, hcells⟩ := HRO.out k d hp
      have q0 : wr.cell? ⟨b0, off + k, none⟩ = some (.string d) := by
        have := (KC.out.below.cell (p := ⟨b0, _, none⟩) hb0).trans (hcells 0 _ rfl)
        simpa using this
      have HEA := Lib.hid ea
      rw [ea]
      clear hp hev hcells ea
      go_wp2_with fail
      refine HPX.out.mono ?_
      rintro e w6 ⟨rfl, hb6⟩
      have C6 := (Ch.of_below (fun _ => False) hb6).alloc (.cells #[.bool ep, .int .i64 (en : Nat), .string es] 27)
      have KCe := Lib.hid (KC.out.trans C6)
      have K3e := Lib.hid (K3.out.ch C6 (fun _ _ => id))
      have KTe := Lib.hid (KT.out.ch C6 (fun _ _ => id))
      obtain ⟨z1, z2⟩ := (Blk.new w6 #[.bool ep, .int .i64 (en : Nat), .string es] 27).cells
      clear C6 hb6 q0 HPX KC K3 KT
      cases hep : ep with
      | false =>
        have HF := Lib.hid (show freeB log (takesN log log.length) k = false by unfold freeB; rw [HPU.out, hep]; simp)
        subst hep
        go_wp2_with fail
        go_roundw
        case rel => exact ⟨k + 1, hlt, by simp, HKEEP.out _ _ HF.out K3e.out, KTe.out, KD.out, KCe.out⟩
        case measure => simp only [intOf]; omega
      | true =>
        have HCN := counts_any a cap log k (w6.alloc (.cells #[.bool ep, .int .i64 (en : Nat), .string es] 27)) (HRO.out.below KCe.out.below) HD.out hlt (by omega)
        rw [HEA.out] at HCN
        have HCN := Lib.hid HCN
        obtain ⟨ck, hck⟩ : ∃ c, countsF log k = c := ⟨_, rfl⟩
        rw [hck] at HCN
        have HCK := Lib.hid hck
        clear hck
        subst hep
        go_wp2_with fail
        refine HCN.out.mono ?_
        rintro e w7 ⟨rfl, hb7⟩
        have KCf := Lib.hid (KCe.out.call hb7)
        have K3f := Lib.hid (K3e.out.below hb7)
        have KTf := Lib.hid (KTe.out.below hb7)
        clear KCe K3e KTe hb7 HCN z1 z2
        cases hck : ck with
        | false =>
          have HF := Lib.hid (show freeB log (takesN log log.length) k = false by unfold freeB; rw [HCK.out, hck]; rfl)
          subst hck
          go_wp2_with fail
          go_roundw
          case rel => exact ⟨k + 1, hlt, by simp, HKEEP.out _ _ HF.out K3f.out, KTf.out, KD.out, KCf.out⟩
          case measure => simp only [intOf]; omega
        | true =>
          have hkl := takesN_len log log.length
          have HT := taken_any a4 c4 (takesN log log.length) (k : Int) w7 w.heap.size (by rw [hkl]; exact KTf.out) (by omega)
          rw [hkl] at HT
          obtain ⟨tk, htk⟩ : ∃ t, (takesN log log.length).contains (k : Int) = t := ⟨_, rfl⟩
          rw [htk] at HT
          have HT := Lib.hid HT
          have HF := Lib.hid (show freeB log (takesN log log.length) k = !tk by unfold freeB; rw [HCK.out, HPU.out, hck, htk]; rfl)
          clear hkl htk
          subst hck
          go_wp2_with fail
          refine HT.out.mono ?_
          rintro e w8 ⟨rfl, hb8⟩
          have KCg := Lib.hid (KCf.out.call hb8)
          have K3g := Lib.hid (K3f.out.below hb8)
          have KTg := Lib.hid (KTf.out.below hb8)
          clear KCf K3f KTf hb8 HT
          cases tk with
          | true =>
            go_wp2_with fail
            go_roundw
            case rel => exact ⟨k + 1, hlt, by simp, HKEEP.out _ _ HF.out K3g.out, KTg.out, KD.out, KCg.out⟩
            case measure => simp only [intOf]; omega
          | false =>
            obtain ⟨xs, hxs⟩ : ∃ xs, xs = ((List.range k).filter (freeB log (takesN log log.length))).map fun j : Nat => (j : Int) := ⟨_, rfl⟩
            have HX := Lib.hid (show xs ++ [(k : Int)] = ((List.range (k + 1)).filter (freeB log (takesN log log.length))).map fun j : Nat => (j : Int) from by rw [keep_yes HF.out, hxs])
            have hxl : xs.length ≤ 24 := by
              rw [hxs, List.length_map]
              have := List.length_filter_le (freeB log (takesN log log.length)) (List.range k)
              rw [List.length_range] at this
              omega
            rw [← hxs] at K3g
            have HXL := Lib.hid hxl
            have KA := Lib.hid ((Ch.refl (fun _ => False) w8).alloc (.cells #[.int .i64 (k : Int)] 3))
            have KB := Lib.hid (Blk.new w8 #[.int .i64 (k : Int)] 3)
            have K3v := Lib.hid (K3g.out.ch KA.out (fun _ _ => id))
            have hbs := (KCg.out.trans KA.out).size
            clear hxs hxl HKEEP
            go_wp2_with (at_builtin; refine wpList_append_int rfl (.tmp 37) (.tmp 39) rfl rfl rfl K3v.out KB.out hbs (by have := HXL.out; omega) ?_)
            intro g5 off5 cap5 w9 hown5 hgrow5 hg5
            obtain ⟨r1, r2, r3⟩ := tk_app (off := off5) (cap := cap5) (n := xs.length + 1) KTg.out KD.out KCg.out K3g.out KA.out hgrow5 (hg5.imp id (fun h => by simpa using h))
            rw [HX.out] at hown5
            have R0 := Lib.hid hown5
            have R1 := Lib.hid r1
            have R2 := Lib.hid r2
            have R3 := Lib.hid r3
            clear hown5 hgrow5 hg5 r1 r2 r3 hbs KA KB K3v
            go_wp2_with fail
            go_roundw
            case rel => exact ⟨k + 1, hlt, by simp, R0.out, R1.out, R2.out, R3.out⟩
            case measure => simp only [intOf]; omega
    · have ht : decide ((k : Int) < (log.length : Int)) = false := by simpa using hlt
      have hkl : k = log.length := by omega
      subst hkl
      clear hlt
      go_wp2_with fail
      go_ret
      exact ⟨_, rfl, K3.out, KC.out⟩
end Go.Proofs.Ythknfikjanoflaa
