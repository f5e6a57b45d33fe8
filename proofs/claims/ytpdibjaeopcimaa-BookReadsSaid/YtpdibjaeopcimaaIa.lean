/- index: New, Applied, behind, Trimmed, Find. -/
import Derived.Test.YtpdibjaeopcimaaIx
set_option linter.unusedVariables false
set_option linter.unusedSimpArgs false
namespace Go.Proofs.Ytpdibjaeopcimaa
open Go.RowKit

theorem keyI : KeyT Try.prog 3 (Value.int .i64) := keyInt Try.underlying3
theorem zeroSeq (w : World) : (zeroValue 39).run Try.prog w = .ok (plV (0, 0)) w := by kernel_rfl
theorem zeroInts (w : World) : (zeroValue 24).run Try.prog w = .ok (.slice none 0 0) w := by kernel_rfl

def NewXPost (w : World) (e : Ending) (w' : World) : Prop :=
  ∃ x, e = .returned (.pointer (some ⟨x, 0, none⟩)) ∧ Ix (fun k => k < w.heap.size) w' x xst0 ∧ Below w.heap.size w w'
set_option maxRecDepth 100000 in
theorem xnew_any (w : World) : Calls Try.prog 29 #[] w (NewXPost w) := by
  have hmm := @run_makeMap Try.prog
  go_enter Try.func29, Try.ntmps29
  go_wp2_with fail
  have B1 := (MapB.new (β := Value × List Nat) w (Value.int .i64) Prod.fst).below (below2 _ (.map #[] 0) (.map #[] 0))
  have B2 := (MapB.new (β := Pl) (w.alloc (.map #[] 0)) plV plV).below (below1 _ (.map #[] 0))
  have B3 := (MapB.new (β := Pl) ((w.alloc (.map #[] 0)).alloc (.map #[] 0)) (Value.int .i64) plV)
  have B4 := Blk.new (((w.alloc (.map #[] 0)).alloc (.map #[] 0)).alloc (.map #[] 0)) #[.slice none 0 0, .map (some w.heap.size), .map (some (w.heap.size + 1)), .map (some (w.heap.size + 1 + 1)), .int .i64 0, .int .i64 0, .int .i64 0] 96
  rw [show (w.alloc (.map #[] 0)).heap.size = w.heap.size + 1 by simp] at B2
  rw [show ((w.alloc (.map #[] 0)).alloc (.map #[] 0)).heap.size = w.heap.size + 1 + 1 by simp] at B3
  rw [show (((w.alloc (.map #[] 0)).alloc (.map #[] 0)).alloc (.map #[] 0)).heap.size = w.heap.size + 1 + 1 + 1 by simp] at B4
  go_ret
  refine ⟨_, rfl, ⟨fun k => if k < w.heap.size then 0 else if k = w.heap.size then 3 else if k = w.heap.size + 1 then 4 else if k = w.heap.size + 1 + 1 then 5 else 1, _, _, _, _, [], ⟨B4, ?_, ⟨ORow.nil _ _, (fun g e => by simp [Value.ownBlock] at e), rfl, (fun p h => by cases h)⟩, ⟨?_, [], B1.below (below1 _ _), (fun t => rfl), (fun p h => by cases h), .nil⟩, B2.below (below1 _ _), ?_, B3.below (below1 _ _), ?_⟩, fun k hk => ⟨by simp; omega, if_pos hk⟩⟩, Ch.below (by (repeat (first | with_reducible assumption | with_reducible exact Ch.refl _ _ | with_reducible refine Ch.drew ?_ | with_reducible refine Ch.alloc ?_ _ | (with_reducible refine Ch.set' ?_ ?_; focus (first | (right; rfl; done) | (left; simp; done) | (left; simp; omega) | (left; omega) | (right; simp; done) | (right; simp; omega))))))⟩
  all_goals (try dsimp only)
  all_goals (repeat' split)
  all_goals (first | rfl | omega)

def trimV (st : XSt) (t : Int) : Pl × Bool := match getA t st.tr with
  | none => ((0, 0), false)
  | some u => (u, true)
theorem trim_look (st : XSt) (t : Int) : lookV plV (plV (0, 0)) (getA t st.tr) true = .tuple #[plV (trimV st t).1, .bool (trimV st t).2] := by
  unfold lookV trimV
  cases getA t st.tr <;> rfl
theorem trim_behind (st : XSt) (t : Int) (a : Pl) : behindX st t a = (!(trimV st t).2 || lessP (trimV st t).1 a) := by
  unfold behindX trimV
  cases getA t st.tr <;> rfl

set_option maxRecDepth 100000 in
set_option maxHeartbeats 4000000 in
theorem behind_any {G : Nat → Prop} {x : Nat} {st : XSt} (t : Int) (a : Pl) (w : World) (h : Ix G w x st) :
    Calls Try.prog 63 #[.pointer (some ⟨x, 0, none⟩), .int .i64 t, plV a] w fun e w' => e = .returned (.bool (behindX st t a)) ∧ Below w.heap.size w w' := by
  obtain ⟨c, rv, mt, mi, mm, rws, h1, h2⟩ := h
  have hlt := h1.box.lt
  have hlk := (h1.trs.below (below1 w (.cells #[.int .i64 a.1, .int .i64 a.2] 39))).look keyI Try.underlying93 (zeroSeq _) t true
  rw [trim_look] at hlk
  rw [trim_behind]
  obtain ⟨q1, q2⟩ := h1.box.cells
  obtain ⟨⟨⟨u, v⟩, is⟩, hq⟩ : ∃ r, trimV st t = r := ⟨_, rfl⟩
  rw [hq] at hlk ⊢
  clear hq
  obtain ⟨a, b⟩ := a
  unfold plV at *
  simp only at hlk ⊢
  clear h1 h2
  cases is with
  | false =>
    go_enter Try.func63, Try.ntmps63
    go_wp2_with fail
    go_ret
    exact ⟨rfl, Ch.below (by (repeat (first | with_reducible assumption | with_reducible exact Ch.refl _ _ | with_reducible refine Ch.drew ?_ | with_reducible refine Ch.alloc ?_ _ | (with_reducible refine Ch.set' ?_ ?_; focus (first | (right; rfl; done) | (left; simp; done) | (left; simp; omega) | (left; omega) | (right; simp; done) | (right; simp; omega))))))⟩
  | true =>
    have HL := Lib.hid (fun w' => less_any (u, v) (a, b) w')
    obtain ⟨r, hr⟩ : ∃ r, lessP (u, v) (a, b) = r := ⟨_, rfl⟩
    rw [hr] at HL ⊢
    unfold plV at HL
    clear hr
    go_enter Try.func63, Try.ntmps63
    go_wp2_with fail
    refine (HL.out _).mono ?_
    rintro e w1 ⟨rfl, hb1⟩
    go_wp2_with fail
    go_ret
    exact ⟨by simp, Ch.below (Ch.call (by (repeat (first | with_reducible assumption | with_reducible exact Ch.refl _ _ | with_reducible refine Ch.drew ?_ | with_reducible refine Ch.alloc ?_ _ | (with_reducible refine Ch.set' ?_ ?_; focus (first | (right; rfl; done) | (left; simp; done) | (left; simp; omega) | (left; omega) | (right; simp; done) | (right; simp; omega)))))) hb1)⟩

set_option maxRecDepth 100000 in
theorem xtrimmed_any {G : Nat → Prop} {x : Nat} {st : XSt} (t : Int) (w : World) (h : Ix G w x st) :
    Calls Try.prog 56 #[.pointer (some ⟨x, 0, none⟩), .int .i64 t] w fun e w' => e = .returned (.tuple #[plV (trimV st t).1, .bool (trimV st t).2]) ∧ Below w.heap.size w w' := by
  obtain ⟨c, rv, mt, mi, mm, rws, h1, h2⟩ := h
  have hlt := h1.box.lt
  have hlk := (h1.trs.below (below1 w (.cells #[.int .i64 0, .int .i64 0] 39))).look keyI Try.underlying93 (zeroSeq _) t true
  rw [trim_look] at hlk
  obtain ⟨⟨⟨u, v⟩, is⟩, hq⟩ : ∃ r, trimV st t = r := ⟨_, rfl⟩
  rw [hq] at hlk ⊢
  obtain ⟨q1, q2⟩ := h1.box.cells
  unfold plV at *
  simp only at hlk ⊢
  clear h1 h2 hq
  go_enter Try.func56, Try.ntmps56
  go_wp2_with fail
  exact bodyPost_ret (v := .tuple #[.agg #[.int .i64 u, .int .i64 v], .bool is]) (by simp [results, Try.results56, go_sem]) rfl ⟨rfl, Ch.below (by (repeat (first | with_reducible assumption | with_reducible exact Ch.refl _ _ | with_reducible refine Ch.drew ?_ | with_reducible refine Ch.alloc ?_ _ | (with_reducible refine Ch.set' ?_ ?_; focus (first | (right; rfl; done) | (left; simp; done) | (left; simp; omega) | (left; omega) | (right; simp; done) | (right; simp; omega))))))⟩

def findX (st : XSt) (id : Pl) : Pl × Bool := match getA id (idsL st.rows) with
  | none => ((0, 0), false)
  | some u => (u, true)
theorem find_look (st : XSt) (id : Pl) : lookV plV (plV (0, 0)) (getA id (idsL st.rows)) true = .tuple #[plV (findX st id).1, .bool (findX st id).2] := by
  unfold lookV findX
  cases getA id (idsL st.rows) <;> rfl
set_option maxRecDepth 100000 in
set_option maxHeartbeats 4000000 in
theorem xfind_any {G : Nat → Prop} {x : Nat} {st : XSt} (id : Pl) (w : World) (h : Ix G w x st) :
    Calls Try.prog 38 #[.pointer (some ⟨x, 0, none⟩), plV id] w fun e w' => e = .returned (.tuple #[plV (findX st id).1, .bool (findX st id).2]) ∧ Below w.heap.size w w' := by
  obtain ⟨c, rv, mt, mi, mm, rws, h1, h2⟩ := h
  have hlt := h1.box.lt
  obtain ⟨a, b⟩ := id
  obtain ⟨w0, hw0⟩ : ∃ w0, w0 = (w.alloc (.cells #[.int .i64 a, .int .i64 b] 23)).alloc (.cells #[.int .i64 0, .int .i64 0] 39) := ⟨_, rfl⟩
  have hb0 := below2 w (.cells #[.int .i64 a, .int .i64 b] 23) (.cells #[.int .i64 0, .int .i64 0] 39)
  have B0 := (Blk.new w #[.int .i64 a, .int .i64 b] 23).alloc (.cells #[.int .i64 0, .int .i64 0] 39)
  have B1 := Blk.new (w.alloc (.cells #[.int .i64 a, .int .i64 b] 23)) #[.int .i64 0, .int .i64 0] 39
  rw [show (w.alloc (.cells #[.int .i64 a, .int .i64 b] 23)).heap.size = w.heap.size + 1 by simp] at B1
  rw [← hw0] at hb0 B0 B1
  have hlk := fun x : Later w0 => ((h1.ids.below hb0).below x.h).look keyId Try.underlying92 (zeroSeq _) (a, b) true
  rw [find_look] at hlk
  obtain ⟨⟨⟨u, v⟩, is⟩, hq⟩ : ∃ r, findX st (a, b) = r := ⟨_, rfl⟩
  rw [hq] at hlk ⊢
  have hlk2 := hlk ⟨w0.drew, (Below.refl _ _).drew⟩
  have hlk3 := hlk ⟨(w0.alloc (.cells #[.int .i64 0, .int .i64 0] 39)).drew, (below1 w0 _).drew⟩
  obtain ⟨q1, q2⟩ := (h1.box.below hb0).cells
  obtain ⟨q3, q4⟩ := B0.cells
  have HB := Lib.hid hb0
  have HB1 := Lib.hid B1
  have l1 := B1.lt
  have l0 := B0.lt
  have lx := (h1.box.below hb0).lt
  unfold plV at *
  simp only at hlk2 hlk3 ⊢
  clear h1 h2 hq hlk hb0 B0 B1
  go_enter Try.func38, Try.ntmps38
  go_wp2_with fail
  rw [← hw0]
  clear hw0
  go_cut [6, 7] (fun v6 v7 wx => v6 = .pointer (some ⟨w0.heap.size, 0, none⟩) ∧ v7 = .bool is ∧ Blk wx (w0.heap.size) #[.int .i64 u, .int .i64 v] 39 ∧ Below w0.heap.size w0 wx)
  case first =>
    go_region
    all_goals
      go_wp2_with fail
      go_meet
      exact ⟨rfl, rfl, by (repeat (first | (with_reducible refine Blk.new' ?_; first | rfl | (simp; done) | (simp; omega)) | with_reducible refine Blk.drew ?_ | with_reducible refine Blk.alloc ?_ _)), Ch.below (by (repeat (first | with_reducible assumption | with_reducible exact Ch.refl _ _ | with_reducible refine Ch.drew ?_ | with_reducible refine Ch.alloc ?_ _ | (with_reducible refine Ch.set' ?_ ?_; focus (first | (right; rfl; done) | (left; simp; done) | (left; simp; omega) | (left; omega) | (right; simp; done) | (right; simp; omega))))))⟩
  case rest =>
    obtain ⟨rfl, rfl, hB, hbx⟩ := hcut
    have HB2 := Lib.hid (HB1.out.below hbx)
    obtain ⟨z1, z2⟩ := hB.cells
    obtain ⟨z3, z4⟩ := HB2.out.cells
    have HBX := Lib.hid (HB.out.trans (hbx.mono HB.out.size))
    have hs0 := HB.out.size
    clear hB q1 q2 q3 q4 hlk2 hlk3 hbx
    go_wp2_with fail
    obtain ⟨y1, y2⟩ := (show Blk _ (w.heap.size + 1) #[.int .i64 u, .int .i64 v] 39 from ((HB2.out.set 0 (.int .i64 u)).set 1 (.int .i64 v))).cells
    exact bodyPost_ret (v := .tuple #[.agg #[.int .i64 u, .int .i64 v], .bool is]) (by simp [results, Try.results38, go_sem, y1]) rfl ⟨rfl, Ch.below ((Ch.of_below _ HBX.out).set (p := ⟨w.heap.size + 1, 0, none⟩) (.inl (by simp)) _ |>.set (p := ⟨w.heap.size + 1, 1, none⟩) (.inl (by simp)) _)⟩
end Go.Proofs.Ytpdibjaeopcimaa
