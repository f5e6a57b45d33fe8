/- book's laws: own, of one item; few. -/
import Derived.Test.YtpdibjaeopcimaaKm
set_option linter.unusedVariables false
set_option linter.unusedSimpArgs false
namespace Go.Proofs.Ytpdibjaeopcimaa
open Go.RowKit

theorem infoItem : (Try.prog.info? 41).map (fun i => (i.zero, i.size, i.bytes)) = some (some (.agg #[.int .i64 0, .int .i64 0, .int .i64 0, .int .i64 0, .int .i64 0, .slice none 0 0, .string ⟨#[]⟩, .int .i64 0, .int .i64 0, .int .i64 0]), 10, 104) := by kernel_rfl
theorem owns_item {W : World} {base e : Nat} {v : Value} {p : It × Value} (h : W.ownsRow base e 10 v 1 (it10O p)) : VRow (fun k => base ≤ k) 10 it10O W v [p] := by
  rcases h.2 with ⟨rfl, h0⟩ | ⟨g, cap, cur, rfl, hb, hgb, hn, hm, hs, ht⟩
  · cases h0
  · refine ⟨_, cap, rfl, hn, hm, fun i x hx => ⟨g, 0, rfl, (Array.getElem?_eq_some_iff.1 hgb).1, hb, fun j u hu => ?_⟩⟩
    obtain ⟨rfl, rfl⟩ : i = 0 ∧ x = p := by
      cases i with
      | zero => simp at hx; exact ⟨rfl, hx.symm⟩
      | succ i => simp at hx
    have hj : j < 10 := (List.getElem?_eq_some_iff.1 hu).1
    have h3 : (cur.toList.take (1 * 10))[j]? = some u := by rw [ht]; exact hu
    rw [List.getElem?_take_of_lt (by omega)] at h3
    simp only [World.cell?, hgb]
    simpa using h3
/-- own's loop. -/
def OwIn (w : World) (p : It × Value) (v3 v8 : Value) (wi : World) : Prop :=
  (v8 = .int .i64 0 ∧ v3 = .slice none 0 0 ∧ Below w.heap.size w wi) ∨ (v8 = .int .i64 1 ∧ wi.ownsRow w.heap.size 41 10 v3 1 (it10O p) ∧ Below w.heap.size w wi)
set_option maxRecDepth 100000 in
set_option maxHeartbeats 8000000 in
theorem bown_any {S : Nat → Prop} (i : It) (tv v : Value) (w : World) (hv : VRow S 12 itO w v [(i, tv)]) (htv : ∃ a n c, tv = .slice a n c) :
    Calls Try.prog 17 #[v] w fun e w' => ∃ v', e = .returned v' ∧ VRow (fun k => w.heap.size ≤ k) 10 it10O w' v' [(i, tv)] ∧ Below w.heap.size w w' := by
  obtain ⟨ta, tn, tc, rfl⟩ := htv
  obtain ⟨va, cap, e, _, _⟩ := hv.slice
  rw [List.length_singleton] at e
  subst e
  have HV := Lib.hid hv
  obtain ⟨kind, ⟨s1, s2⟩, ⟨⟨i1, i2⟩, tags, data⟩, tag, ⟨u1, u2⟩, ⟨f1, f2⟩⟩ := i
  clear hv
  go_enter Try.func17, Try.ntmps17
  go_wp2_with fail
  go_loopw [3, 8] (fun v3 v8 wi => OwIn w (⟨kind, (s1, s2), ⟨(i1, i2), tags, data⟩, tag, (u1, u2), (f1, f2)⟩, .slice ta tn tc) v3 v8 wi) (fun _ v _ => 1 - (intOf v).toNat)
  case atStart => exact .inl ⟨rfl, rfl, Below.refl _ _⟩
  case round =>
    rcases hrel with ⟨rfl, rfl, hbr⟩ | ⟨rfl, hrow, hbr⟩
    · have HBR := Lib.hid hbr
      obtain ⟨g, off, cap', e, hat⟩ := (HV.out.below hbr).at (i := 0) rfl
      cases e
      have c0 : wr.cell? ⟨g, off, none⟩ = some (.int .i64 kind) := by simpa using hat 0 _ rfl
      have c1 : wr.cell? ⟨g, off + 1, none⟩ = some (.int .i64 s1) := by simpa using hat 1 _ rfl
      have c2 : wr.cell? ⟨g, off + 2, none⟩ = some (.int .i64 s2) := by simpa using hat 2 _ rfl
      have c3 : wr.cell? ⟨g, off + 3, none⟩ = some (.int .i64 i1) := by simpa using hat 3 _ rfl
      have c4 : wr.cell? ⟨g, off + 4, none⟩ = some (.int .i64 i2) := by simpa using hat 4 _ rfl
      have c5 : wr.cell? ⟨g, off + 5, none⟩ = some (.slice ta tn tc) := by simpa using hat 5 _ rfl
      have c6 : wr.cell? ⟨g, off + 6, none⟩ = some (.string data) := by simpa using hat 6 _ rfl
      have c7 : wr.cell? ⟨g, off + 7, none⟩ = some (.int .i64 tag) := by simpa using hat 7 _ rfl
      have c8 : wr.cell? ⟨g, off + 8, none⟩ = some (.int .i64 u1) := by simpa using hat 8 _ rfl
      have c9 : wr.cell? ⟨g, off + 9, none⟩ = some (.int .i64 u2) := by simpa using hat 9 _ rfl
      have c10 : wr.cell? ⟨g, off + 10, none⟩ = some (.int .i64 f1) := by simpa using hat 10 _ rfl
      have c11 : wr.cell? ⟨g, off + 11, none⟩ = some (.int .i64 f2) := by simpa using hat 11 _ rfl
      obtain ⟨i0, hi, hz0, hz1, hz2⟩ := info_parts infoItem
      have B := Blk.new (wr.alloc (.cells #[.int .i64 kind, .int .i64 s1, .int .i64 s2, .int .i64 i1, .int .i64 i2, .slice ta tn tc, .string data, .int .i64 tag, .int .i64 u1, .int .i64 u2, .int .i64 f1, .int .i64 f2] 54)) #[.int .i64 kind, .int .i64 s1, .int .i64 s2, .int .i64 i1, .int .i64 i2, .slice ta tn tc, .string data, .int .i64 tag, .int .i64 u1, .int .i64 u2] 41
      have hb2 := below2 wr (.cells #[.int .i64 kind, .int .i64 s1, .int .i64 s2, .int .i64 i1, .int .i64 i2, .slice ta tn tc, .string data, .int .i64 tag, .int .i64 u1, .int .i64 u2, .int .i64 f1, .int .i64 f2] 54) (.cells #[.int .i64 kind, .int .i64 s1, .int .i64 s2, .int .i64 i1, .int .i64 i2, .slice ta tn tc, .string data, .int .i64 tag, .int .i64 u1, .int .i64 u2] 41)
      have HNW := Lib.hid (fun (j : Nat) (u : Value) (hu : (it10O (⟨kind, (s1, s2), ⟨(i1, i2), tags, data⟩, tag, (u1, u2), (f1, f2)⟩, .slice ta tn tc))[j]? = some u) => show World.cell? _ ((⟨wr.heap.size + 1, 0, none⟩ : Addr).add j) = some u from by
        rw [Addr.add_mid, Nat.zero_add]
        rw [World.size_alloc] at B
        rw [B.cell]
        simpa [it10O] using hu)
      have HB2 := Lib.hid hb2
      have hmax : (0 : Nat) + 1 ≤ maxLen := by unfold maxLen; omega
      clear hat hbr B hb2
      go_wp2_with (at_builtin; refine wpList_append_own _ rfl (.tmp 12) (.tmp 24) 42 rfl w.heap.size 41 i0 _ 10 104 Try.underlying42 hi hz0 hz1 hz2 rfl (by decide) _ 0 [] rfl (World.ownsRow_nil _ _ _ _) ⟨wr.heap.size + 1, 0, none⟩ 1 1 (it10O (⟨kind, (s1, s2), ⟨(i1, i2), tags, data⟩, tag, (u1, u2), (f1, f2)⟩, .slice ta tn tc)) rfl rfl HNW.out (by simp [it10O, Value.oneCell']) hmax (by omega) (by have := HBR.out.size; simp; omega) ?_; intro v' w9 hown' hgrow _)
      have hb9 : Below w.heap.size w w9 := Ch.below ((Ch.of_below (fun _ => False) (HBR.out.trans (HB2.out.mono HBR.out.size))).step (Ch.of_grown hgrow) (fun j hj e => by cases e))
      go_roundw
      case rel => exact .inr ⟨rfl, hown', hb9⟩
      case measure => simp [intOf]
    · have HRW := Lib.hid hrow
      have HBR := Lib.hid hbr
      clear hrow hbr
      go_wp2_with fail
      go_ret
      exact ⟨_, rfl, owns_item HRW.out, HBR.out⟩
end Go.Proofs.Ytpdibjaeopcimaa
