/- index: slices.Clone, told. -/
import Derived.Test.YtpdibjaeopcimaaIb
import Derived.OwnWalk
import Derived.Laws.AppendOwnNone
import Derived.Laws.Cover3
set_option linter.unusedVariables false
set_option linter.unusedSimpArgs false
namespace Go.Proofs.Ytpdibjaeopcimaa
open Go.RowKit

theorem infoInt : (Try.prog.info? 3).map (fun i => (i.zero, i.size, i.bytes)) = some (some (.int .i64 0), 1, 8) := by kernel_rfl
theorem binEqNil {P : Program} (t e : TypeId) (a : Option Addr) (l c : Nat) (h : P.underlying t = some (.slice e)) (W : World) : (binOp BinOp.eql t (.slice a l c) (.slice none 0 0)).run P W = .ok (.bool a.isNone) W := by
  have := run_equal_slice_nil (P := P) W t e a l c h
  simp [binOp, this, go_sem, Result.andThen]
theorem run_append_own_zero {P : Program} (w : World) (t ty e g : Nat) (a : Addr) (cap : Nat) (ht : P.underlying t = some (.slice e)) (hi : (P.info? e).map (fun i => (i.zero, i.size, i.bytes)) = some (some (.int .i64 0), 1, 8)) :
    (Builtin.append_ #[t, t] ty #[.slice (some ⟨g, 0, none⟩) 0 0, .slice (some a) 0 cap]).run P w = .ok (.slice (some ⟨g, 0, none⟩) 0 0) w := by
  obtain ⟨i, hinfo, hz0, hz1, hz2⟩ := info_parts hi
  simp [Builtin.append_, run_underlying ht, sizeOf, typeInfo, hinfo, Builtin.lenOf, Builtin.firstCells, loadCells, loadCellsFrom, storeCells]
theorem wpList_append_zero {P : Program} {w : World} {ops : Array Oper} {rest : List Oper} {o : Oper} {a : Act} {Q : Exit → Act → World → Prop} (hgd : o.guard = none) (s x : Operand) (t : TypeId)
    (ho : o.op = .call { callee := .builtin .append, args := #[s, x], argTypes := #[t, t] }) {e g cap : Nat} {ad : Addr} (ht : P.underlying t = some (.slice e)) (hi : (P.info? e).map (fun i => (i.zero, i.size, i.bytes)) = some (some (.int .i64 0), 1, 8))
    (hs : a.eval s = .slice (some ⟨g, 0, none⟩) 0 0) (hx : a.eval x = .slice (some ad) 0 cap)
    (h : wpList P ops Q rest (a.put o.dst (.slice (some ⟨g, 0, none⟩) 0 0)) w) : wpList P ops Q (o :: rest) a w := by
  refine wpList_plain hgd fun K hK => ?_
  have hrun := run_append_own_zero (P := P) w t o.type e g ad cap ht hi
  unfold Oper.wp
  simp [execOp, ho, resolve, invoke, builtin, hs, hx, hrun, Result.andThen]
  exact hK _ _ h
def ClonePost (xs : List Int) (w : World) (e : Ending) (w' : World) : Prop := ∃ v', e = .returned v' ∧ VRow (fun k => w.heap.size ≤ k) 1 intO w' v' xs ∧ Below w.heap.size w w'
set_option maxRecDepth 100000 in
set_option maxHeartbeats 4000000 in
theorem clone_any {S : Nat → Prop} {v : Value} {xs : List Int} (w : World) (h : VRow S 1 intO w v xs) (hm : xs.length ≤ 4194304) :
    Calls Try.prog 58 #[v] w (ClonePost xs w) := by
  obtain ⟨a, cap, rfl, h2, h3, h4⟩ := h
  cases a with
  | none =>
    have hx : xs = [] := by
      cases xs with
      | nil => rfl
      | cons y ys =>
        obtain ⟨b, off, e, _⟩ := h4 0 y rfl
        cases e
    subst hx
    clear h2 h3 h4 hm
    have heq := binEqNil (P := Try.prog) 24 3 none 0 cap Try.underlying24
    go_enter Try.func58, Try.ntmps58
    go_wp2_with fail
    go_ret
    exact ⟨_, rfl, VRow.nil _ _, Ch.below (by (repeat (first | with_reducible assumption | with_reducible exact Ch.refl _ _ | with_reducible refine Ch.drew ?_ | with_reducible refine Ch.alloc ?_ _ | (with_reducible refine Ch.set' ?_ ?_; focus (first | (right; rfl; done) | (left; simp; done) | (left; simp; omega) | (left; omega) | (right; simp; done) | (right; simp; omega))))))⟩
  | some a =>
    have heq := binEqNil (P := Try.prog) 24 3 (some a) xs.length cap Try.underlying24
    cases xs with
    | nil =>
      have heq := binEqNil (P := Try.prog) 24 3 (some a) 0 cap Try.underlying24
      clear h4
      go_enter Try.func58, Try.ntmps58
      go_wp2_with (at_builtin; refine wpList_append_zero rfl (.tmp 5) (.tmp 6) 24 rfl Try.underlying24 infoInt rfl rfl ?_)
      go_ret
      exact ⟨_, rfl, VRow.empty _ _ _ _ (by simp [maxLen]), Ch.below (by (repeat (first | with_reducible assumption | with_reducible exact Ch.refl _ _ | with_reducible refine Ch.drew ?_ | with_reducible refine Ch.alloc ?_ _ | (with_reducible refine Ch.set' ?_ ?_; focus (first | (right; rfl; done) | (left; simp; done) | (left; simp; omega) | (left; omega) | (right; simp; done) | (right; simp; omega))))))⟩
    | cons y ys =>
      obtain ⟨b, off, e, hb, _⟩ := h4 0 y rfl
      cases e
      have hnews : ∀ (j : Nat) u, ((y :: ys).map (Value.int .i64))[j]? = some u → w.cell? ((⟨b, off, none⟩ : Addr).add j) = some u := fun j u hu => by
        rw [List.getElem?_map] at hu
        obtain ⟨z, hz, rfl⟩ := Option.map_eq_some_iff.1 hu
        obtain ⟨b', off', e, _, _, hc⟩ := h4 j z hz
        cases e
        rw [Addr.add_mid]
        simpa using hc 0 _ rfl
      have hone : ∀ u ∈ (y :: ys).map (Value.int .i64), u.oneCell' = true := fun u hu => by
        obtain ⟨z, _, rfl⟩ := List.mem_map.1 hu
        rfl
      obtain ⟨xs, hxs⟩ : ∃ xs, xs = y :: ys := ⟨_, rfl⟩
      rw [← hxs] at hnews hone h2 heq hm ⊢
      have hpos : 0 < xs.length := by rw [hxs]; simp
      have hne : ¬ xs = [] := by rw [hxs]; simp
      obtain ⟨i0, hinfo, hz0, hz1, hz2⟩ := info_parts infoInt
      have HN := Lib.hid hnews
      clear h4 hxs hnews
      go_enter Try.func58, Try.ntmps58
      go_wp2_with (at_builtin; refine wpList_append_lies _ rfl (.tmp 5) (.tmp 6) 24 rfl 0 3 i0 (.int .i64 0) 1 8 Try.underlying24 hinfo hz0 hz1 hz2 rfl (by decide) _ 0 [] rfl (World.ownsRow_lit w #[] 0 (Nat.zero_le _) (by simp [maxLen]) rfl) _ xs.length cap (xs.map (Value.int .i64)) rfl (by simp) ?c1 hone hpos (by unfold maxLen; omega) (by omega) (Nat.zero_le _) (w.heap.size + 1) ?c2 ?_)
      case c1 =>
        intro j u hu
        have h5 := HN.out j u hu
        rw [Addr.add_mid] at h5 ⊢
        exact ((below1 w (.cells #[] 3)).cell (p := ⟨b, off + j, none⟩) hb).trans h5
      case c2 => simp
      intro g2 cap2 w2 hown hgrow hg hlt
      have HV := Lib.hid (show VRow (fun k => w.heap.size ≤ k) 1 intO w2 (.slice (some ⟨g2, 0, none⟩) xs.length cap2) xs from by
        obtain ⟨r1, r2, r3, r4, r5, r6⟩ := ownsRow_there hown
        refine ⟨_, cap2, rfl, r3, r4, fun i x hx => ⟨g2, 0, rfl, r2, ?_, fun j u hu => ?_⟩⟩
        · rcases hg with e | e
          · simp [Value.ownBlock] at e
            omega
          · omega
        · have := r6 i (.int .i64 x) (by rw [List.getElem?_map, hx]; rfl)
          simp only [intO] at hu
          obtain ⟨rfl, rfl⟩ : j = 0 ∧ u = .int .i64 x := by
            cases j with
            | zero => simp at hu; exact ⟨rfl, hu.symm⟩
            | succ j => simp at hu
          simpa using this)
      have HB := Lib.hid (Ch.below (show Ch (fun _ => False) w w2 from ((Ch.refl (fun _ => False) w).alloc (.cells #[] 3)).step (Ch.of_grown hgrow) (fun k hk e => by simp [Value.ownBlock] at e; omega)))
      clear hown hgrow hg hlt
      go_wp2_with fail
      go_ret
      exact ⟨_, rfl, HV.out, HB.out⟩

def rc0 : Rc := ⟨(0, 0), [], ⟨#[]⟩⟩
def rw0 : Rw := ⟨(0, 0), rc0⟩
def recV (r : Rc) (tv : Value) : Value := .agg #[.int .i64 r.id.1, .int .i64 r.id.2, tv, .string r.data]
/-- What is told of a row, or that there is none. -/
def ToldPost (o : Option Rw) (w : World) (e : Ending) (w' : World) : Prop :=
  ∃ tv, e = .returned (.tuple #[recV (o.getD rw0).r tv, plV (o.getD rw0).pl, .bool o.isSome]) ∧ VRow (fun k => w.heap.size ≤ k) 1 intO w' tv (o.getD rw0).r.tags ∧ Below w.heap.size w w'

set_option maxRecDepth 100000 in
set_option maxHeartbeats 4000000 in
theorem told_none {x : Nat} {a : Option Addr} {len cap : Nat} (k : Int) (w : World) (hk : k < 0 ∨ (len : Int) ≤ k) :
    Calls Try.prog 55 #[.pointer (some ⟨x, 0, none⟩), .slice a len cap, .int .i64 k] w (ToldPost none w) := by
  by_cases h0 : k < 0
  · have t0 : decide (k < 0) = true := by simpa using h0
    clear hk h0
    go_enter Try.func55, Try.ntmps55
    go_wp2_with fail
    exact bodyPost_ret (v := .tuple #[recV rc0 (.slice none 0 0), plV (0, 0), .bool false]) (by simp [results, Try.results55, go_sem, recV, plV, rc0]) rfl ⟨_, rfl, VRow.nil _ _, Ch.below (by (repeat (first | with_reducible assumption | with_reducible exact Ch.refl _ _ | with_reducible refine Ch.drew ?_ | with_reducible refine Ch.alloc ?_ _ | (with_reducible refine Ch.set' ?_ ?_; focus (first | (right; rfl; done) | (left; simp; done) | (left; simp; omega) | (left; omega) | (right; simp; done) | (right; simp; omega))))))⟩
  · have t0 : decide (k < 0) = false := by simpa using h0
    have t1 : decide ((len : Int) ≤ k) = true := by simp; omega
    clear hk h0
    go_enter Try.func55, Try.ntmps55
    go_wp2_with fail
    exact bodyPost_ret (v := .tuple #[recV rc0 (.slice none 0 0), plV (0, 0), .bool false]) (by simp [results, Try.results55, go_sem, recV, plV, rc0]) rfl ⟨_, rfl, VRow.nil _ _, Ch.below (by (repeat (first | with_reducible assumption | with_reducible exact Ch.refl _ _ | with_reducible refine Ch.drew ?_ | with_reducible refine Ch.alloc ?_ _ | (with_reducible refine Ch.set' ?_ ?_; focus (first | (right; rfl; done) | (left; simp; done) | (left; simp; omega) | (left; omega) | (right; simp; done) | (right; simp; omega))))))⟩

set_option maxRecDepth 100000 in
set_option maxHeartbeats 4000000 in
theorem told_some {G : Nat → Prop} {x : Nat} {st : XSt} {lv : Value} {nums : List Nat} {k n : Nat} {r : Rw} (w : World) (h : Ix G w x st) (hl : VRow (fun _ => True) 1 natO w lv nums) (hk : nums[k]? = some n) (hr : st.rows[n]? = some r) (hsm : r.r.tags.length ≤ 4194304) :
    Calls Try.prog 55 #[.pointer (some ⟨x, 0, none⟩), lv, .int .i64 (k : Nat)] w (ToldPost (some r) w) := by
  obtain ⟨c, rv, mt, mi, mm, rws, i1, i2⟩ := h
  obtain ⟨g, off, cap, tv, rfl, hg, htv, hat⟩ := i1.row hr
  obtain ⟨g2, off2, cap2, rfl, hat2⟩ := hl.at hk
  have c0 : w.cell? ⟨g, off + n * 6, none⟩ = some (.int .i64 r.pl.1) := by simpa using hat 0 _ rfl
  have c1 : w.cell? ⟨g, off + n * 6 + 1, none⟩ = some (.int .i64 r.pl.2) := by simpa [Nat.add_assoc] using hat 1 _ rfl
  have c2 : w.cell? ⟨g, off + n * 6 + 2, none⟩ = some (.int .i64 r.r.id.1) := by simpa [Nat.add_assoc] using hat 2 _ rfl
  have c3 : w.cell? ⟨g, off + n * 6 + 3, none⟩ = some (.int .i64 r.r.id.2) := by simpa [Nat.add_assoc] using hat 3 _ rfl
  have c4 : w.cell? ⟨g, off + n * 6 + 4, none⟩ = some tv := by simpa [Nat.add_assoc] using hat 4 _ rfl
  have c5 : w.cell? ⟨g, off + n * 6 + 5, none⟩ = some (.string r.r.data) := by simpa [Nat.add_assoc] using hat 5 _ rfl
  have d0 : w.cell? ⟨g2, off2 + k, none⟩ = some (.int .i64 (n : Nat)) := by simpa using hat2 0 _ rfl
  have m0 := (cell_spot c0).2
  have m2 := (cell_spot d0).2
  simp only at m0 m2
  obtain ⟨q1, q2⟩ := i1.box.cells
  have l0 := i1.box.lt
  have hkl := (List.getElem?_eq_some_iff.1 hk).1
  have hnl := (List.getElem?_eq_some_iff.1 hr).1
  have t1 : decide ((nums.length : Int) ≤ (k : Int)) = false := by simp; omega
  have t2 : decide ((n : Int) < (st.rows.length : Int)) = true := by simpa using hnl
  have t3 : decide ((k : Int) < 0) = false := by simp
  obtain ⟨⟨pa, pb⟩, ⟨⟨ia, ib⟩, tags, data⟩⟩ := r
  simp only at c0 c1 c2 c3 c5 htv hsm
  have HTV := Lib.hid htv
  obtain ⟨ta, tcap, rfl, _, _⟩ := htv.slice
  have hb0 := below2 w (.cells #[.int .i64 0, .int .i64 0, .slice none 0 0, .string ⟨#[]⟩] 26) (.cells #[.int .i64 0, .int .i64 0] 39)
  have B1 := (Blk.new w #[.int .i64 0, .int .i64 0, .slice none 0 0, .string ⟨#[]⟩] 26).alloc (.cells #[.int .i64 0, .int .i64 0] 39)
  have B2 := (Blk.new (w.alloc (.cells #[.int .i64 0, .int .i64 0, .slice none 0 0, .string ⟨#[]⟩] 26)) #[.int .i64 0, .int .i64 0] 39)
  rw [show (w.alloc (.cells #[.int .i64 0, .int .i64 0, .slice none 0 0, .string ⟨#[]⟩] 26)).heap.size = w.heap.size + 1 by simp] at B2
  obtain ⟨w0, hw0⟩ : ∃ w0, w0 = (w.alloc (.cells #[.int .i64 0, .int .i64 0, .slice none 0 0, .string ⟨#[]⟩] 26)).alloc (.cells #[.int .i64 0, .int .i64 0] 39) := ⟨_, rfl⟩
  rw [← hw0] at hb0 B1 B2
  have c0 := (hb0.cell (p := ⟨_, _, none⟩) m0).trans c0
  have c1 := (hb0.cell (p := ⟨_, _, none⟩) m0).trans c1
  have c2 := (hb0.cell (p := ⟨_, _, none⟩) m0).trans c2
  have c3 := (hb0.cell (p := ⟨_, _, none⟩) m0).trans c3
  have c4 := (hb0.cell (p := ⟨_, _, none⟩) m0).trans c4
  have c5 := (hb0.cell (p := ⟨_, _, none⟩) m0).trans c5
  have d0 := (hb0.cell (p := ⟨_, _, none⟩) m2).trans d0
  have m0 := Nat.lt_of_lt_of_le m0 hb0.size
  have m2 := Nat.lt_of_lt_of_le m2 hb0.size
  obtain ⟨q1, q2⟩ := (i1.box.below hb0).cells
  have l0 := (i1.box.below hb0).lt
  have l1 := B1.lt
  have l2 := B2.lt
  have HB := Lib.hid hb0
  have HB1 := Lib.hid B1
  have HB2 := Lib.hid B2
  have HTV0 := Lib.hid (HTV.out.below hb0)
  clear i1 i2 hl hk hr hat hat2 hg htv hb0 B1 B2
  go_enter Try.func55, Try.ntmps55
  go_wp2_with fail
  rw [← hw0]
  clear hw0
  go_cut [9] (fun v9 wx => v9 = .pointer (some ⟨w0.heap.size, 0, none⟩) ∧ Blk wx w0.heap.size #[.int .i64 pa, .int .i64 pb, .int .i64 ia, .int .i64 ib, .slice ta tags.length tcap, .string data] 108 ∧ Below w0.heap.size w0 wx)
  case first =>
    go_region
    all_goals
      go_wp2_with fail
      go_meet
      exact ⟨rfl, by (repeat (first | (with_reducible refine Blk.new' ?_; first | rfl | (simp; done) | (simp; omega)) | with_reducible refine Blk.drew ?_ | with_reducible refine Blk.alloc ?_ _)), Ch.below (by (repeat (first | with_reducible assumption | with_reducible exact Ch.refl _ _ | with_reducible refine Ch.drew ?_ | with_reducible refine Ch.alloc ?_ _ | (with_reducible refine Ch.set' ?_ ?_; focus (first | (right; rfl; done) | (left; simp; done) | (left; simp; omega) | (left; omega) | (right; simp; done) | (right; simp; omega))))))⟩
  case rest =>
    obtain ⟨rfl, hB, hbx⟩ := hcut
    have HC := Lib.hid (clone_any wc (HTV0.out.below hbx) hsm)
    obtain ⟨z1, z2⟩ := hB.cells
    have HBX := Lib.hid (HB.out.trans (hbx.mono HB.out.size))
    have HB1x := Lib.hid (HB1.out.below hbx)
    have HB2x := Lib.hid (HB2.out.below hbx)
    have HBr := Lib.hid hB
    have hlt := hB.lt
    clear c0 c1 c2 c3 c4 c5 d0 q1 q2 hB hbx HTV HTV0
    go_wp2_with fail
    refine HC.out.mono ?_
    rintro e w1 ⟨tv2, rfl, hv, hb1⟩
    obtain ⟨ta2, tcap2, rfl, _, _⟩ := hv.slice
    have hsz := HBX.out.size
    have HV := Lib.hid (hv.mono (S' := fun k => w0.heap.size < k) (fun k _ hk => by omega))
    obtain ⟨y1, y2⟩ := (HBr.out.below hb1).cells
    have HBY := Lib.hid (HBX.out.trans (hb1.mono HBX.out.size))
    have HY1 := Lib.hid (HB1x.out.below hb1)
    have HY2 := Lib.hid (HB2x.out.below hb1)
    have HYr := Lib.hid (HBr.out.below hb1)
    have hlt2 := (HBr.out.below hb1).lt
    have hs0 := HB.out.size
    clear hv hb1 z1 z2 HBX HB1x HB2x HBr
    go_wp2_with fail
    have BR := HYr.out.set 4 (.slice ta2 tags.length tcap2)
    have E1 := HY1.out.far (p := ⟨w0.heap.size, 4, none⟩) (by simp; omega) (.slice ta2 tags.length tcap2)
    have E2 := HY2.out.far (p := ⟨w0.heap.size, 4, none⟩) (by simp; omega) (.slice ta2 tags.length tcap2)
    have CB := (Ch.of_below (fun _ => False) HBY.out).set (p := ⟨w0.heap.size, 4, none⟩) (.inl (by simp; omega)) (.slice ta2 tags.length tcap2)
    have VV := HV.out.ch (S' := (· = w0.heap.size)) (Ch.set (S := (· = w0.heap.size)) (p := ⟨w0.heap.size, 4, none⟩) (Ch.refl _ w1) (.inr rfl) (.slice ta2 tags.length tcap2)) (fun k hk e => by omega)
    obtain ⟨w2, hw2⟩ : ∃ w2, w2 = w1.setCell ⟨w0.heap.size, 4, none⟩ (.slice ta2 tags.length tcap2) := ⟨_, rfl⟩
    rw [← hw2] at BR E1 E2 CB VV ⊢
    obtain ⟨x1, x2⟩ := BR.cells
    obtain ⟨x3, x4⟩ := E1.cells
    obtain ⟨x5, x6⟩ := E2.cells
    have e1 := E1.lt
    have e2 := E2.lt
    have n1 : w.heap.size ≠ w.heap.size + 1 := by omega
    have n2 : w.heap.size + 1 ≠ w.heap.size := by omega
    have HCB := Lib.hid CB
    have HVV := Lib.hid VV
    have HE1 := Lib.hid E1
    have HE2 := Lib.hid E2
    clear y1 y2 BR E1 E2 CB VV hw2
    go_region
    all_goals
      go_wp2_with fail
      obtain ⟨f1, f2⟩ := (show Blk _ w.heap.size #[.int .i64 ia, .int .i64 ib, .slice ta2 tags.length tcap2, .string data] 26 from ((((((HE1.out.set 0 (.int .i64 ia)).set 1 (.int .i64 ib)).set 2 (.slice ta2 tags.length tcap2)).set 3 (.string data)).far (p := ⟨w.heap.size + 1, 0, none⟩) n1 (.int .i64 pa)).far (p := ⟨w.heap.size + 1, 1, none⟩) n1 (.int .i64 pb))).cells
      obtain ⟨f3, f4⟩ := (show Blk _ (w.heap.size + 1) #[.int .i64 pa, .int .i64 pb] 39 from ((((((HE2.out.far (p := ⟨w.heap.size, 0, none⟩) n2 (.int .i64 ia)).far (p := ⟨w.heap.size, 1, none⟩) n2 (.int .i64 ib)).far (p := ⟨w.heap.size, 2, none⟩) n2 (.slice ta2 tags.length tcap2)).far (p := ⟨w.heap.size, 3, none⟩) n2 (.string data)).set 0 (.int .i64 pa)).set 1 (.int .i64 pb))).cells
      refine bodyPost_ret (v := .tuple #[recV ⟨(ia, ib), tags, data⟩ (.slice ta2 tags.length tcap2), plV (pa, pb), .bool true]) (by simp [results, Try.results55, go_sem, f1, f3, recV, plV]) rfl ⟨_, rfl, ?_, ?_⟩
      · refine ((HVV.out.ch (S' := fun k => k = w.heap.size ∨ k = w.heap.size + 1) (w1 := _) ?_ (fun k hk e => by omega)).mono (fun k _ hk => by omega))
        exact (((((((Ch.refl _ w2).set (p := ⟨w.heap.size, 0, none⟩) (.inr (.inl rfl)) _).set (p := ⟨w.heap.size, 1, none⟩) (.inr (.inl rfl)) _).set (p := ⟨w.heap.size, 2, none⟩) (.inr (.inl rfl)) _).set (p := ⟨w.heap.size, 3, none⟩) (.inr (.inl rfl)) _).set (p := ⟨w.heap.size + 1, 0, none⟩) (.inr (.inr rfl)) _).set (p := ⟨w.heap.size + 1, 1, none⟩) (.inr (.inr rfl)) _).drew
      · exact (((((((HCB.out.set (p := ⟨w.heap.size, 0, none⟩) (.inl (Nat.le_refl _)) _).set (p := ⟨w.heap.size, 1, none⟩) (.inl (Nat.le_refl _)) _).set (p := ⟨w.heap.size, 2, none⟩) (.inl (Nat.le_refl _)) _).set (p := ⟨w.heap.size, 3, none⟩) (.inl (Nat.le_refl _)) _).set (p := ⟨w.heap.size + 1, 0, none⟩) (.inl (by simp)) _).set (p := ⟨w.heap.size + 1, 1, none⟩) (.inl (by simp)) _).drew).below
end Go.Proofs.Ytpdibjaeopcimaa
