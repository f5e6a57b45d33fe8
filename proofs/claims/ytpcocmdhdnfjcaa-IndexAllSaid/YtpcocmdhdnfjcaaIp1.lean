/- index's reference: last. -/
import Derived.Test.YtpcocmdhdnfjcaaIo
set_option linter.unusedVariables false
set_option linter.unusedSimpArgs false
namespace Go.Proofs.Ytpcocmdhdnfjcaa
open Go.RowKit

def docV (v : Value) : Value := .agg #[v]
def lastD (L : List It) : Pl := L.foldl (fun s i => if i.kind = 1 then i.seq else s) (0, 0)
theorem lastD_snoc (L : List It) (i : It) : lastD (L ++ [i]) = if i.kind = 1 then i.seq else lastD L := by unfold lastD; rw [List.foldl_append]; rfl
theorem ItsAt.old {S : Nat → Prop} {w : World} {v : Value} {l : List (It × Value)} (h : ItsAt S w v l) : ItsAt (fun k => k < w.heap.size) w v l := ⟨h.row.mono fun _ hk _ => hk, fun p hp => (h.tags p hp).mono fun _ hk _ => hk⟩
/-- What the walk reads of an item. -/
theorem ItsAt.item {S : Nat → Prop} {w : World} {v : Value} {l : List (It × Value)} (h : ItsAt S w v l) {k : Nat} {i : It} {tv : Value} (hk : l[k]? = some (i, tv)) :
    ∃ g off cap, v = .slice (some ⟨g, off, none⟩) l.length cap ∧ g < w.heap.size ∧ S g ∧ VRow S 1 intO w tv i.r.tags ∧ w.cell? ⟨g, off + k * 12, none⟩ = some (.int .i64 i.kind) ∧ w.cell? ⟨g, off + k * 12 + 1, none⟩ = some (.int .i64 i.seq.1) ∧ w.cell? ⟨g, off + k * 12 + 2, none⟩ = some (.int .i64 i.seq.2) ∧
      w.cell? ⟨g, off + k * 12 + 3, none⟩ = some (.int .i64 i.r.id.1) ∧ w.cell? ⟨g, off + k * 12 + 4, none⟩ = some (.int .i64 i.r.id.2) ∧ w.cell? ⟨g, off + k * 12 + 5, none⟩ = some tv ∧ w.cell? ⟨g, off + k * 12 + 6, none⟩ = some (.string i.r.data) ∧ w.cell? ⟨g, off + k * 12 + 7, none⟩ = some (.int .i64 i.tag) ∧
      w.cell? ⟨g, off + k * 12 + 8, none⟩ = some (.int .i64 i.upto.1) ∧ w.cell? ⟨g, off + k * 12 + 9, none⟩ = some (.int .i64 i.upto.2) ∧ w.cell? ⟨g, off + k * 12 + 10, none⟩ = some (.int .i64 i.far.1) ∧ w.cell? ⟨g, off + k * 12 + 11, none⟩ = some (.int .i64 i.far.2) := by
  obtain ⟨a, cap, rfl, h2, h3, h4⟩ := h.row
  obtain ⟨g, off, e, hg, hS, hat⟩ := h4 k _ hk
  refine ⟨g, off, cap, by rw [e], hg, hS, h.tags _ (List.mem_of_getElem? hk), ?_, ?_, ?_, ?_, ?_, ?_, ?_, ?_, ?_, ?_, ?_, ?_⟩
  · simpa using hat 0 _ rfl
  · simpa [Nat.add_assoc] using hat 1 _ rfl
  · simpa [Nat.add_assoc] using hat 2 _ rfl
  · simpa [Nat.add_assoc] using hat 3 _ rfl
  · simpa [Nat.add_assoc] using hat 4 _ rfl
  · simpa [Nat.add_assoc] using hat 5 _ rfl
  · simpa [Nat.add_assoc] using hat 6 _ rfl
  · simpa [Nat.add_assoc] using hat 7 _ rfl
  · simpa [Nat.add_assoc] using hat 8 _ rfl
  · simpa [Nat.add_assoc] using hat 9 _ rfl
  · simpa [Nat.add_assoc] using hat 10 _ rfl
  · simpa [Nat.add_assoc] using hat 11 _ rfl
/-- The items themselves. -/
def its (l : List (It × Value)) : List It := l.map (·.1)

/-- last's loop. -/
def LaIn (w0 : World) (b : Nat) (L : List It) (v : Value) (wi : World) : Prop := ∃ k : Nat, v = .int .i64 (k : Int) ∧ k ≤ L.length ∧ Blk wi b #[.int .i64 (lastD (L.take k)).1, .int .i64 (lastD (L.take k)).2] 29 ∧ Ch (· = b) w0 wi
set_option maxRecDepth 100000 in
set_option maxHeartbeats 8000000 in
theorem rlast_any {S : Nat → Prop} {v : Value} (l : List (It × Value)) (w : World) (h : ItsAt S w v l) (hm : l.length ≤ 4194304) :
    Calls Try.prog 47 #[docV v] w fun e w' => e = .returned (plV (lastD (its l))) ∧ Below w.heap.size w w' := by
  have hb0 : Below w.heap.size w (((w.alloc (.cells #[v] 48)).alloc (.cells #[.int .i64 0, .int .i64 0] 29)).alloc (.cells #[.int .i64 0, .int .i64 0] 29)) := Ch.below (by (repeat (first | with_reducible assumption | with_reducible exact Ch.refl _ _ | with_reducible refine Ch.drew ?_ | with_reducible refine Ch.alloc ?_ _ | (with_reducible refine Ch.set' ?_ ?_; focus (first | (right; rfl; done) | (left; simp; done) | (left; simp; omega) | (left; omega) | (right; simp; done) | (right; simp; omega))))))
  have B1 := ((Blk.new w #[v] 48).alloc (.cells #[.int .i64 0, .int .i64 0] 29)).alloc (.cells #[.int .i64 0, .int .i64 0] 29)
  have B2 := (Blk.new (w.alloc (.cells #[v] 48)) #[.int .i64 0, .int .i64 0] 29).alloc (.cells #[.int .i64 0, .int .i64 0] 29)
  have B3 := (Blk.new ((w.alloc (.cells #[v] 48)).alloc (.cells #[.int .i64 0, .int .i64 0] 29)) #[.int .i64 0, .int .i64 0] 29)
  rw [show (w.alloc (.cells #[v] 48)).heap.size = w.heap.size + 1 by simp] at B2
  rw [show ((w.alloc (.cells #[v] 48)).alloc (.cells #[.int .i64 0, .int .i64 0] 29)).heap.size = w.heap.size + 1 + 1 by simp] at B3
  obtain ⟨w0, hw0⟩ : ∃ w0, w0 = (((w.alloc (.cells #[v] 48)).alloc (.cells #[.int .i64 0, .int .i64 0] 29)).alloc (.cells #[.int .i64 0, .int .i64 0] 29)) := ⟨_, rfl⟩
  rw [← hw0] at hb0 B1 B2 B3
  have HV := Lib.hid (h.old.below hb0)
  obtain ⟨a, cap, rfl, _, _⟩ := h.row.slice
  have HB := Lib.hid hb0
  have HB1 := Lib.hid B1
  have HB2 := Lib.hid B2
  have HB3 := Lib.hid B3
  have HM := Lib.hid hm
  have hll : (its l).length = l.length := by simp [its]
  have HLL := Lib.hid hll
  unfold docV
  clear h hm hb0 B1 B2 B3 hll
  go_enter Try.func47, Try.ntmps47
  go_wp2_with fail
  rw [← hw0]
  clear hw0
  go_loopw [4] (fun v wi => LaIn w0 (w.heap.size + 1 + 1) (its l) v wi) (fun i _ => l.length - (intOf i).toNat)
  case atStart => exact ⟨0, rfl, Nat.zero_le _, HB3.out, Ch.refl _ _⟩
  case round =>
    obtain ⟨k, rfl, hk, hB, hC⟩ := hrel
    have HBk := Lib.hid hB
    have HC := Lib.hid hC
    have HV2 := Lib.hid (HV.out.ch hC (fun j e e2 => by omega))
    obtain ⟨q1, q2⟩ := (HB1.out.ch hC (by omega)).cells
    obtain ⟨q3, q4⟩ := hB.cells
    rw [HLL.out] at hk
    clear hB hC
    by_cases hlt : k < l.length
    · have ht : decide ((k : Int) < (l.length : Int)) = true := by simpa using hlt
      obtain ⟨⟨i, tv⟩, hp⟩ : ∃ p, l[k]? = some p := ⟨_, List.getElem?_eq_getElem hlt⟩
      obtain ⟨g, off, cap2, e, hg, hS, htv, c0, c1, c2, c3, c4, c5, c6, c7, c8, c9, c10, c11⟩ := HV2.out.item hp
      cases e
      have hpi : (its l)[k]? = some i := by unfold its; rw [List.getElem?_map, hp]; rfl
      have HTK := Lib.hid (show lastD ((its l).take (k + 1)) = if i.kind = 1 then i.seq else lastD ((its l).take k) by rw [List.take_add_one, hpi]; exact lastD_snoc _ _)
      have HW2 := Lib.hid (show wrap64 ((k : Int) + 1) = (k : Int) + 1 from IntWalk.wrap64_in _ (by have := HM.out; omega))
      have HLT := Lib.hid hlt
      have hgn : ¬ (g = w.heap.size + 1 + 1) := by omega
      clear hp hpi htv c3 c4 c5 c6 c7 c8 c9 c10 c11
      by_cases h1 : (i.kind == 1) = true
      · have HK := Lib.hid (show i.kind = 1 by simpa using h1)
        go_wp2_with fail
        have hB4 := (show Blk _ (w.heap.size + 1 + 1) #[.int .i64 i.seq.1, .int .i64 i.seq.2] 29 from ((HBk.out.set 0 (.int .i64 i.seq.1)).set 1 (.int .i64 i.seq.2)))
        have hC4 := (HC.out.set (p := ⟨w.heap.size + 1 + 1, 0, none⟩) (.inr rfl) (.int .i64 i.seq.1)).set (p := ⟨w.heap.size + 1 + 1, 1, none⟩) (.inr rfl) (.int .i64 i.seq.2)
        go_roundw
        case rel => exact ⟨k + 1, (by first | rfl | (rw [HW2.out]; rfl)), (by rw [HLL.out]; exact HLT.out), (by rw [HTK.out, if_pos HK.out]; exact hB4), hC4⟩
        case measure => first | exact rt_meas HW2.out HLT.out | exact rt_meas2 HLT.out
      · simp only [Bool.not_eq_true] at h1
        have HK := Lib.hid (show ¬ i.kind = 1 by simpa using h1)
        go_wp2_with fail
        go_roundw
        case rel => exact ⟨k + 1, (by first | rfl | (rw [HW2.out]; rfl)), (by rw [HLL.out]; exact HLT.out), (by rw [HTK.out, if_neg HK.out]; exact HBk.out), HC.out⟩
        case measure => first | exact rt_meas HW2.out HLT.out | exact rt_meas2 HLT.out
    · have ht : decide ((k : Int) < (l.length : Int)) = false := by simpa using hlt
      have ht2 : decide (l.length ≤ k) = true := by simp; omega
      have ht3 : decide (k < l.length) = false := by simpa using hlt
      have HKE := Lib.hid (show lastD ((its l).take k) = lastD (its l) by rw [show k = (its l).length by rw [HLL.out]; omega, List.take_length])
      have HB4 := Lib.hid (HB2.out.ch HC.out (by omega))
      rw [HKE.out] at q3
      obtain ⟨z1, z2⟩ := HB4.out.cells
      obtain ⟨⟨u, v⟩, hu⟩ : ∃ q, lastD (its l) = q := ⟨_, rfl⟩
      rw [hu] at q3
      have HU := Lib.hid hu
      clear hu
      go_wp2_with fail
      obtain ⟨y1, y2⟩ := (show Blk _ (w.heap.size + 1) #[.int .i64 u, .int .i64 v] 29 from ((HB4.out.set 0 (.int .i64 u)).set 1 (.int .i64 v))).cells
      refine bodyPost_ret (v := plV (u, v)) (by simp [results, Try.results47, go_sem, y1, plV]) rfl ⟨by rw [HU.out], ?_⟩
      have hC5 : Ch (fun k => w.heap.size ≤ k) w0 wr := HC.out.mono (fun j e => by omega)
      have hC6 := (hC5.set (p := ⟨w.heap.size + 1, 0, none⟩) (.inr (by simp)) (.int .i64 u)).set (p := ⟨w.heap.size + 1, 1, none⟩) (.inr (by simp)) (.int .i64 v)
      exact Ch.below ((Ch.of_below (fun _ => False) HB.out).step hC6 (fun j hj e => by omega))
end Go.Proofs.Ytpcocmdhdnfjcaa
