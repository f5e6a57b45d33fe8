/- flow's Add. -/
import Derived.Test.YtoknpcohhnlncaaFlowS
set_option linter.unusedVariables false
set_option linter.unusedSimpArgs false
namespace Go.Proofs.Ytoknpcohhnlncaa
open Go.RowKit

def addF (n : Int) (vals : List ByteArray) (l : List Nat) : List ByteArray × Bool :=
  match parseF l with
  | some (k, t) => if k = vals.length ∧ (k : Int) < n then (vals ++ [bS t], true) else (vals, false)
  | none => (vals, false)

def AddPost (s : Nat) (vb : Option Nat) (base : Nat) (n : Int) (vals : List ByteArray) (l : List Nat) (w : World) (e : Ending) (w' : World) : Prop :=
  ∃ vb', e = .returned (.bool (addF n vals l).2) ∧ St w' s vb' base n (addF n vals l).1 ∧ (∀ g, vb' = some g → vb = some g ∨ w.heap.size ≤ g) ∧ Ch (fun k => k = s ∨ vb = some k) w w'

theorem infoStr : (Try.prog.info? 9).map (fun i => (i.zero, i.size, i.bytes)) = some (some (.string ⟨#[]⟩), 1, 16) := by kernel_rfl

/-- Add's end: the value is appended. -/
theorem add_fin {s : Nat} {vb : Option Nat} {base : Nat} {n : Int} {vals : List ByteArray} {l : List Nat} {t : List Nat} {k : Nat} {w w4 w5 : World} {v : Value} {o : Obj} {g5 cap5 : Nat} (HS4 : St w4 s vb base n vals) (HC4 : Ch (fun k => k = s ∨ vb = some k) w w4)
    (g1 : Blk w4 s #[.int .i64 n, v] 65) (g3 : v.ownBlock = vb) (hgrow : (w4.alloc o).drew.grownBy w5 v.ownBlock) (hown5 : w5.ownsRow base 9 1 (.slice (some ⟨g5, 0, none⟩) (vals.length + 1) cap5) (vals.length + 1) (vals.map Value.string ++ [.string (bS t)]))
    (hg5 : v.ownBlock = some g5 ∨ g5 = w4.heap.size + 1) (hlt5 : g5 < w5.heap.size) (hk : k = vals.length ∧ (k : Int) < n) (hn : n ≤ 64) (ha : addF n vals l = (vals ++ [bS t], true)) :
    AddPost s vb base n vals l w (.returned (.bool true)) (w5.setCell ⟨s, 1, none⟩ (.slice (some ⟨g5, 0, none⟩) (vals.length + 1) cap5)) := by
  have hs4 := HS4.lt.1
  have hne : g5 ≠ s := by
    intro e
    subst e
    rcases hg5 with h | h
    · exact HS4.ne (by rw [← g3, h])
    · omega
  have hns : ¬ some s = v.ownBlock := by rw [g3]; exact fun e => HS4.ne e.symm
  have B5 : Blk w5 s #[.int .i64 n, v] 65 := (g1.alloc o).drew.ch (Ch.of_grown hgrow) hns
  have C5 : Ch (fun k => k = s ∨ vb = some k) w w5 := ((HC4.alloc o).drew).step (Ch.of_grown hgrow) (fun j _ e => .inr (by rw [← g3]; exact e.symm))
  unfold AddPost
  rw [ha]
  refine ⟨some g5, rfl, ⟨⟨_, by simpa using B5.set 1 _, ?_, rfl⟩, by simpa using hne, by simp; omega⟩, ?_, C5.set (.inr (.inl rfl)) _⟩
  · have h1 : SRow w5 base (.slice (some ⟨g5, 0, none⟩) (vals.length + 1) cap5) (vals ++ [bS t]) := by
      unfold SRow
      rw [List.length_append, List.map_append]
      exact hown5
    exact h1.ch (S := fun j => j = s) ((Ch.refl (fun j => j = s) w5).set (p := ⟨s, 1, none⟩) (.inr rfl) _) (fun g e => by simp [Value.ownBlock] at e; omega)
  · intro g e
    cases e
    rcases hg5 with h | h
    · exact .inl (by rw [← g3, h])
    · right
      have := HC4.size
      omega

set_option maxRecDepth 100000 in
set_option maxHeartbeats 8000000 in
theorem add_any (s : Nat) (vb : Option Nat) (base : Nat) (n : Int) (vals : List ByteArray) (d : ByteArray) (w : World) (h : St w s vb base n vals) (hbase : base ≤ w.heap.size) (hn : n ≤ 64) (hd : d.size ≤ 140737488351232) :
    Calls Try.prog 16 #[.pointer (some ⟨s, 0, none⟩), .string d] w (AddPost s vb base n vals (sB d) w) := by
  have HP := Lib.hid (parse_any d (w.alloc (.cells #[.pointer (some ⟨s, 0, none⟩)] 29)) hd)
  have HS1 := Lib.hid (h.below (below1 w (.cells #[.pointer (some ⟨s, 0, none⟩)] 29)))
  have HB1 := Lib.hid (Blk.new w #[.pointer (some ⟨s, 0, none⟩)] 29)
  have HC1 := Lib.hid ((Ch.refl (fun k => k = s ∨ vb = some k) w).alloc (.cells #[.pointer (some ⟨s, 0, none⟩)] 29))
  have hsl := h.lt
  have HSm := Lib.hid h.small
  clear h
  cases hp : parseF (sB d) with
  | none =>
    have hv : parseV (sB d) = .tuple #[.int .i64 0, .string ⟨#[]⟩, .bool false] := by unfold parseV; rw [hp]
    have ha : addF n vals (sB d) = (vals, false) := by unfold addF; rw [hp]
    have HA := Lib.hid ha
    rw [hv] at HP
    clear hp hv ha
    go_enter Try.func16, Try.ntmps16
    go_wp2_with fail
    refine HP.out.mono ?_
    rintro e w2 ⟨rfl, hb2⟩
    have HS2 := Lib.hid ((HS1.out.below hb2).below (below1 w2 (.cells #[.int .i64 0] 3)))
    have HC2 := Lib.hid ((HC1.out.call hb2).alloc (.cells #[.int .i64 0] 3))
    clear HP hb2 HS1 HC1
    go_wp2_with fail
    refine bodyPost_ret (v := .bool false) (by simp [results, Try.results16, go_sem]) rfl ?_
    unfold AddPost
    rw [HA.out]
    exact ⟨vb, rfl, HS2.out, fun g e => .inl e, HC2.out⟩
  | some x =>
    obtain ⟨k, t⟩ := x
    have hv : parseV (sB d) = .tuple #[.int .i64 (k : Nat), .string (bS t), .bool true] := by unfold parseV; rw [hp]
    rw [hv] at HP
    by_cases hok : k = vals.length ∧ (k : Int) < n
    · have ha : addF n vals (sB d) = (vals ++ [bS t], true) := by unfold addF; rw [hp]; simp only; rw [if_pos hok]
      have HA := Lib.hid ha
      have hok2 : decide (k = vals.length ∧ (k : Int) < n) = true := by simpa using hok
      have HOK := Lib.hid hok
      clear hp hv ha hok
      go_enter Try.func16, Try.ntmps16
      go_wp2_with fail
      refine HP.out.mono ?_
      rintro e w2 ⟨rfl, hb2⟩
      have HS2 := HS1.out.below hb2
      have HS3 := Lib.hid (HS2.below (below1 w2 (.cells #[.int .i64 (k : Nat)] 3)))
      have HC3 := Lib.hid ((HC1.out.call hb2).alloc (.cells #[.int .i64 (k : Nat)] 3))
      have HB3 := Lib.hid ((HB1.out.below hb2).alloc (.cells #[.int .i64 (k : Nat)] 3))
      have HT := turn_any w2.heap.size w.heap.size s vb base n vals k _ HS3.out (Blk.new w2 _ _) HB3.out
      rw [hok2] at HT
      have HT := Lib.hid HT
      have hw2 : w.heap.size + 1 ≤ w2.heap.size := by simpa using hb2.size
      clear HP hb2 HS1 HC1 HB1 HS2 hok2
      go_wp2_with fail
      refine HT.out.mono ?_
      rintro e w4 ⟨rfl, hb4⟩
      have HS4 := Lib.hid (HS3.out.below hb4)
      have HC4 := Lib.hid (HC3.out.call hb4)
      have HB4 := HB3.out.below hb4
      obtain ⟨v, g1, g2, g3⟩ := HS4.out.box
      obtain ⟨q1, q2⟩ := g1.cells
      obtain ⟨q3, q4⟩ := HB4.cells
      have hw4 := HB4.lt
      have HGB := Lib.hid HB4
      have HNB := Lib.hid (show ¬ some w.heap.size = v.ownBlock by rw [g3]; exact fun e => by have := (hsl.2 _ e.symm).1; omega)
      have HR := Lib.hid g2
      have HG1 := Lib.hid g1
      have hns : ¬ some s = v.ownBlock := by rw [g3]; exact fun e => HS4.out.ne e.symm
      have HNS := Lib.hid hns
      have hs4 := HS4.out.lt.1
      obtain ⟨i0, hinfo, hz0, hz1, hz2⟩ := info_parts infoStr
      have HOWN := Lib.hid (fun w' (hc : Ch (fun _ => False) w4 w') => SRow.ch HR.out hc (fun _ _ => id))
      have hsm := HSm.out
      have hb4' : base ≤ w4.heap.size := Nat.le_trans hbase HC4.out.size
      clear HT hb4 HS3 HC3 HB3 HB4 g1 g2 hns
      go_wp2_with fail
      go_region_law (refine step_append_lies _ rfl (.tmp 27) (.tmp 29) 28 rfl base 9 i0 (.string ⟨#[]⟩) 1 16 Try.underlying28 hinfo hz0 hz1 hz2 rfl (by decide) v vals.length (vals.map Value.string) (by simp [Act.eval, Act.put]) (HOWN.out _ (by (repeat (first | with_reducible assumption | with_reducible exact Ch.refl _ _ | with_reducible refine Ch.drew ?_ | with_reducible refine Ch.alloc ?_ _ | (with_reducible refine Ch.set' ?_ ?_; focus (first | (right; rfl; done) | (left; simp; done) | (left; simp; omega) | (left; omega) | (right; simp; done) | (right; simp; omega))))))) ⟨w4.heap.size, 0, none⟩ 1 1 [.string (bS t)] (by simp [Act.eval, Act.put]) rfl (World.news_of_block (cs := #[.string (bS t)]) (t := 9) (fr := (0, 0)) (Blk.new w4 #[.string (bS t)] 9)) (by intro u hu; simp at hu; subst hu; rfl) (by decide) (by unfold maxLen; omega) (by omega) (by simp; omega) (w4.heap.size + 1) (by simp) ?_; intro g5 cap5 w5 hown5 hgrow hg5 hlt5; obtain ⟨z1, z2⟩ := ((HG1.out.alloc (.cells #[.string (bS t)] 9)).drew.ch (Ch.of_grown hgrow) HNS.out).cells; obtain ⟨z3, z4⟩ := ((HGB.out.alloc (.cells #[.string (bS t)] 9)).drew.ch (Ch.of_grown hgrow) HNB.out).cells)
      all_goals (
        go_wp2_with fail
        exact bodyPost_ret (v := .bool true) (by simp [results, Try.results16, go_sem]) rfl (add_fin HS4.out HC4.out HG1.out g3 hgrow hown5 hg5 hlt5 HOK.out hn HA.out))
    · have ha : addF n vals (sB d) = (vals, false) := by unfold addF; rw [hp]; simp only; rw [if_neg hok]
      have HA := Lib.hid ha
      have hok2 : decide (k = vals.length ∧ (k : Int) < n) = false := by simpa using hok
      clear hp hv ha hok
      go_enter Try.func16, Try.ntmps16
      go_wp2_with fail
      refine HP.out.mono ?_
      rintro e w2 ⟨rfl, hb2⟩
      have HS2 := HS1.out.below hb2
      have HS3 := Lib.hid (HS2.below (below1 w2 (.cells #[.int .i64 (k : Nat)] 3)))
      have HC3 := Lib.hid ((HC1.out.call hb2).alloc (.cells #[.int .i64 (k : Nat)] 3))
      have HB3 := Lib.hid ((HB1.out.below hb2).alloc (.cells #[.int .i64 (k : Nat)] 3))
      have HT := turn_any w2.heap.size w.heap.size s vb base n vals k _ HS3.out (Blk.new w2 _ _) HB3.out
      rw [hok2] at HT
      have HT := Lib.hid HT
      clear HP hb2 HS1 HC1 HB1 HS2 hok2
      go_wp2_with fail
      refine HT.out.mono ?_
      rintro e w4 ⟨rfl, hb4⟩
      have HS4 := Lib.hid (HS3.out.below hb4)
      have HC4 := Lib.hid (HC3.out.call hb4)
      clear HT hb4 HS3 HC3 HB3
      go_wp2_with fail
      refine bodyPost_ret (v := .bool false) (by simp [results, Try.results16, go_sem]) rfl ?_
      unfold AddPost
      rw [HA.out]
      exact ⟨vb, rfl, HS4.out, fun g e => .inl e, HC4.out⟩
end Go.Proofs.Ytoknpcohhnlncaa
