/- index's laws: own, in, few. -/
import Derived.Test.YtpdibjaeopcimaaIj
set_option linter.unusedVariables false
set_option linter.unusedSimpArgs false
namespace Go.Proofs.Ytpdibjaeopcimaa
open Go.RowKit

def item16V (i : It) (tv : Value) : Value := .agg #[.int .i64 i.kind, .int .i64 i.seq.1, .int .i64 i.seq.2, .int .i64 i.r.id.1, .int .i64 i.r.id.2, tv, .string i.r.data, .int .i64 i.tag, .int .i64 i.upto.1, .int .i64 i.upto.2, .int .i64 i.far.1, .int .i64 i.far.2]
def itO (p : It × Value) : List Value := [.int .i64 p.1.kind, .int .i64 p.1.seq.1, .int .i64 p.1.seq.2, .int .i64 p.1.r.id.1, .int .i64 p.1.r.id.2, p.2, .string p.1.r.data, .int .i64 p.1.tag, .int .i64 p.1.upto.1, .int .i64 p.1.upto.2, .int .i64 p.1.far.1, .int .i64 p.1.far.2]
theorem itO_len (p : It × Value) : (itO p).length = 12 := rfl
attribute [local go_sem high] eqId eqSeq
/-- Items in memory. -/
structure ItsAt (S : Nat → Prop) (w : World) (v : Value) (l : List (It × Value)) : Prop where
  row : VRow S 12 itO w v l
  tags : ∀ p ∈ l, VRow S 1 intO w p.2 p.1.r.tags
theorem ItsAt.ch {S S' : Nat → Prop} {w w1 : World} {v : Value} {l : List (It × Value)} (h : ItsAt S w v l) (hc : Ch S' w w1) (hs : ∀ k, S k → ¬ S' k) : ItsAt S w1 v l := ⟨h.row.ch hc hs, fun p hp => (h.tags p hp).ch hc hs⟩
theorem ItsAt.below {S : Nat → Prop} {w w1 : World} {v : Value} {l : List (It × Value)} (h : ItsAt S w v l) (hb : Below w.heap.size w w1) : ItsAt S w1 v l := h.ch (Ch.of_below (fun _ => False) hb) (fun _ _ => id)
def lowI (i : It) : Prop := i.seq.1 ≤ 1125899906842624 ∧ i.seq.2 ≤ 1125899906842624
/-- few's loop. -/
def FewIn (w : World) (l : List (It × Value)) (v3 v8 : Value) (wi : World) : Prop := ∃ (k : Nat) (x : Int), v8 = .int .i64 (k : Int) ∧ v3 = .int .i64 x ∧ k ≤ l.length ∧ (∀ j p, j < k → l[j]? = some p → lowI p.1) ∧ Below w.heap.size w wi
def FewPost (l : List (It × Value)) (w : World) (e : Ending) (w' : World) : Prop := ∃ b, e = .returned (.bool b) ∧ (b = true → l.length ≤ 60 ∧ ∀ p ∈ l, lowI p.1) ∧ Below w.heap.size w w'
set_option maxRecDepth 100000 in
set_option maxHeartbeats 4000000 in
theorem few_any {S : Nat → Prop} {v : Value} (l : List (It × Value)) (w : World) (hv : ItsAt S w v l) (hm : l.length ≤ 140737488351232) : Calls Try.prog 16 #[v] w (FewPost l w) := by
  have HV := Lib.hid hv
  obtain ⟨la, lcap, rfl, _, _⟩ := hv.row.slice
  have HM := Lib.hid hm
  clear hv hm
  go_enter Try.func16, Try.ntmps16
  go_wp2_with fail
  go_loopw [3, 8] (fun v3 v8 wi => FewIn w l v3 v8 wi) (fun _ i _ => l.length - (intOf i).toNat)
  case atStart => exact ⟨0, 0, rfl, rfl, Nat.zero_le _, fun j p hj _ => absurd hj (Nat.not_lt_zero _), Below.refl _ _⟩
  case round =>
    obtain ⟨k, x, rfl, rfl, hk, hlo, hbr⟩ := hrel
    have HLO := Lib.hid hlo
    have HBR := Lib.hid hbr
    have hVr := HV.out.below hbr
    clear hlo hbr
    by_cases hlt : k < l.length
    · have ht : decide ((k : Int) < (l.length : Int)) = true := by simpa using hlt
      obtain ⟨p, hp⟩ : ∃ p, l[k]? = some p := ⟨_, List.getElem?_eq_getElem hlt⟩
      obtain ⟨g, off, cap, e, hat⟩ := hVr.row.at hp
      cases e
      have htg := hVr.tags p (List.mem_of_getElem? hp)
      have HP := Lib.hid hp
      obtain ⟨⟨kind, ⟨sa, sb⟩, ⟨⟨ia, ib⟩, tags, data⟩, tag, ⟨ua, ub⟩, ⟨fa, fb⟩⟩, tv⟩ := p
      obtain ⟨ta, tcap, e2, _, _⟩ := htg.slice
      simp only at e2
      subst e2
      have c0 : wr.cell? ⟨g, off + k * 12, none⟩ = some (.int .i64 kind) := by simpa using hat 0 _ rfl
      have c1 : wr.cell? ⟨g, off + k * 12 + 1, none⟩ = some (.int .i64 sa) := by simpa [Nat.add_assoc] using hat 1 _ rfl
      have c2 : wr.cell? ⟨g, off + k * 12 + 2, none⟩ = some (.int .i64 sb) := by simpa [Nat.add_assoc] using hat 2 _ rfl
      have c3 : wr.cell? ⟨g, off + k * 12 + 3, none⟩ = some (.int .i64 ia) := by simpa [Nat.add_assoc] using hat 3 _ rfl
      have c4 : wr.cell? ⟨g, off + k * 12 + 4, none⟩ = some (.int .i64 ib) := by simpa [Nat.add_assoc] using hat 4 _ rfl
      have c5 : wr.cell? ⟨g, off + k * 12 + 5, none⟩ = some (.slice ta tags.length tcap) := by simpa [Nat.add_assoc] using hat 5 _ rfl
      have c6 : wr.cell? ⟨g, off + k * 12 + 6, none⟩ = some (.string data) := by simpa [Nat.add_assoc] using hat 6 _ rfl
      have c7 : wr.cell? ⟨g, off + k * 12 + 7, none⟩ = some (.int .i64 tag) := by simpa [Nat.add_assoc] using hat 7 _ rfl
      have c8 : wr.cell? ⟨g, off + k * 12 + 8, none⟩ = some (.int .i64 ua) := by simpa [Nat.add_assoc] using hat 8 _ rfl
      have c9 : wr.cell? ⟨g, off + k * 12 + 9, none⟩ = some (.int .i64 ub) := by simpa [Nat.add_assoc] using hat 9 _ rfl
      have c10 : wr.cell? ⟨g, off + k * 12 + 10, none⟩ = some (.int .i64 fa) := by simpa [Nat.add_assoc] using hat 10 _ rfl
      have c11 : wr.cell? ⟨g, off + k * 12 + 11, none⟩ = some (.int .i64 fb) := by simpa [Nat.add_assoc] using hat 11 _ rfl
      have m0 := (cell_spot c0).2
      simp only at m0
      have HW2 := Lib.hid (show wrap64 ((k : Int) + 1) = (k : Int) + 1 from IntWalk.wrap64_in _ (by have := HM.out; omega))
      have HLT := Lib.hid hlt
      have HBR2 := Lib.hid (HBR.out.trans ((below1 wr (.cells #[.int .i64 kind, .int .i64 sa, .int .i64 sb, .int .i64 ia, .int .i64 ib, .slice ta tags.length tcap, .string data, .int .i64 tag, .int .i64 ua, .int .i64 ub, .int .i64 fa, .int .i64 fb] 54)).mono HBR.out.size))
      clear hat hVr hp htg
      by_cases h1 : decide (1125899906842624 < sa) = true
      · go_wp2_with fail
        go_ret
        exact ⟨false, rfl, (fun h => by cases h), HBR2.out⟩
      · simp only [Bool.not_eq_true] at h1
        by_cases h2 : decide (1125899906842624 < sb) = true
        · go_wp2_with fail
          go_ret
          exact ⟨false, rfl, (fun h => by cases h), HBR2.out⟩
        · simp only [Bool.not_eq_true] at h2
          have HX := Lib.hid (show ∀ j p, j < k + 1 → l[j]? = some p → lowI p.1 from fun j p hj hp => by
            by_cases hjk : j = k
            · subst hjk
              rw [HP.out] at hp
              cases hp
              simp at h1 h2
              exact ⟨h1, h2⟩
            · exact HLO.out j p (by omega) hp)
          go_wp2_with fail
          go_roundw
          case rel => exact ⟨k + 1, _, (by first | rfl | (rw [HW2.out]; rfl)), rfl, HLT.out, HX.out, HBR2.out⟩
          case measure => first | exact rt_meas HW2.out HLT.out | exact rt_meas2 HLT.out
    · have ht : decide ((k : Int) < (l.length : Int)) = false := by simpa using hlt
      have ht2 : decide (l.length ≤ k) = true := by simp; omega
      have ht3 : decide (k < l.length) = false := by simpa using hlt
      have HX := Lib.hid (show ∀ p ∈ l, lowI p.1 from fun p hp => by
        obtain ⟨j, hj, rfl⟩ := List.getElem_of_mem hp
        exact HLO.out j l[j] (by omega) (List.getElem?_eq_getElem hj))
      by_cases h6 : decide ((l.length : Int) ≤ 60) = true
      · have h6b : l.length ≤ 60 := by simp at h6; omega
        have H6 := Lib.hid h6b
        clear h6b
        obtain ⟨b, hb⟩ : ∃ b, decide (x ≤ 10000) = b := ⟨_, rfl⟩
        go_wp2_with fail
        go_ret
        exact ⟨_, rfl, fun _ => ⟨H6.out, HX.out⟩, HBR.out⟩
      · simp only [Bool.not_eq_true] at h6
        go_wp2_with fail
        go_ret
        exact ⟨false, rfl, fun h => (by cases h), HBR.out⟩
end Go.Proofs.Ytpdibjaeopcimaa
