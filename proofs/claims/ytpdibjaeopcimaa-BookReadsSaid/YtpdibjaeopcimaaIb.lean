/- index: first, counting. -/
import Derived.Test.YtpdibjaeopcimaaIa
import Derived.Test.YtpdibjaeopcimaaOpen
set_option linter.unusedVariables false
set_option linter.unusedSimpArgs false
namespace Go.Proofs.Ytpdibjaeopcimaa
open Go.RowKit

/-- What the walk reads of a row. -/
theorem IxL.row {c : Nat → Nat} {w : World} {x : Nat} {rv : Value} {mt mi mm : Nat} {rws : List (Rw × Value)} {f : Int → List Nat} {ids : List (Pl × Pl)} {st : XSt} (h : IxL c w x rv mt mi mm rws f ids st) {n : Nat} {r : Rw} (hr : st.rows[n]? = some r) :
    ∃ g off cap tv, rv = .slice (some ⟨g, off, none⟩) st.rows.length cap ∧ g < w.heap.size ∧ VRow (fun k => c k = 7) 1 intO w tv r.r.tags ∧ ∀ (j : Nat) u, (rwO (r, tv))[j]? = some u → w.cell? ⟨g, off + (n * 6 + j), none⟩ = some u := by
  have hl : rws.length = st.rows.length := by rw [← h.rows.fst]; simp
  rw [← h.rows.fst, List.getElem?_map] at hr
  obtain ⟨p, hp, rfl⟩ := Option.map_eq_some_iff.1 hr
  obtain ⟨g, off, cap, e, hat⟩ := h.rows.row.at rwO_len hp
  exact ⟨g, off, cap, p.2, by rw [e, hl], (h.rows.row.own (by rw [e]; rfl)).2, h.rows.tgs p (List.mem_of_getElem? hp), hat⟩

set_option maxRecDepth 100000 in
set_option maxHeartbeats 4000000 in
theorem first1_any {G : Nat → Prop} {x : Nat} {st : XSt} {lv : Value} {nums : List Nat} {b1 b2 b3 k n : Nat} {r : Rw} (a : Pl) (w : World) (h : Ix G w x st) (hl : VRow (fun _ => True) 1 natO w lv nums)
    (h1 : Blk w b1 #[.pointer (some ⟨x, 0, none⟩)] 70) (h2 : Blk w b2 #[lv] 24) (h3 : Blk w b3 #[.int .i64 a.1, .int .i64 a.2] 39) (hk : nums[k]? = some n) (hr : st.rows[n]? = some r) :
    Calls Try.prog 64 #[.int .i64 (k : Nat), .pointer (some ⟨b1, 0, none⟩), .pointer (some ⟨b2, 0, none⟩), .pointer (some ⟨b3, 0, none⟩)] w fun e w' => e = .returned (.bool (!lessP r.pl a)) ∧ Below w.heap.size w w' := by
  obtain ⟨c, rv, mt, mi, mm, rws, i1, i2⟩ := h
  obtain ⟨g, off, cap, tv, rfl, hg, htv, hat⟩ := i1.row hr
  obtain ⟨g2, off2, cap2, rfl, hat2⟩ := hl.at hk
  have c0 : w.cell? ⟨g, off + n * 6, none⟩ = some (.int .i64 r.pl.1) := by simpa using hat 0 _ rfl
  have c1 : w.cell? ⟨g, off + n * 6 + 1, none⟩ = some (.int .i64 r.pl.2) := by simpa [Nat.add_assoc] using hat 1 _ rfl
  have c2 : w.cell? ⟨g2, off2 + k, none⟩ = some (.int .i64 (n : Nat)) := by simpa using hat2 0 _ rfl
  have c0b := fun x : Later w => (x.h.cell (p := ⟨g, off + n * 6, none⟩) (cell_spot c0).2).trans c0
  have c1b := fun x : Later w => (x.h.cell (p := ⟨g, off + n * 6 + 1, none⟩) (cell_spot c1).2).trans c1
  have c2b := fun x : Later w => (x.h.cell (p := ⟨g2, off2 + k, none⟩) (cell_spot c2).2).trans c2
  obtain ⟨q1, q2⟩ := i1.box.laterCells
  obtain ⟨q3, q4⟩ := h1.laterCells
  obtain ⟨q5, q6⟩ := h2.laterCells
  obtain ⟨q7, q8⟩ := h3.laterCells
  have hkl := (List.getElem?_eq_some_iff.1 hk).1
  have hnl := (List.getElem?_eq_some_iff.1 hr).1
  have t1 : decide ((k : Int) < (nums.length : Int)) = true := by simpa using hkl
  have t2 : decide ((n : Int) < (st.rows.length : Int)) = true := by simpa using hnl
  have HL := Lib.hid (fun x : Later w => less_any r.pl a x.w)
  obtain ⟨d, hd⟩ : ∃ d, lessP r.pl a = d := ⟨_, rfl⟩
  rw [hd] at HL ⊢
  unfold plV at HL
  clear i1 i2 hl h1 h2 h3 hk hr hat hat2 c0 c1 c2 hd htv hg
  go_enter Try.func64, Try.ntmps64
  go_wp2_with fail
  refine wp_region_later (by kernel_rfl) (by kernel_rfl) ?_
  repeat (go_big_quiet_step (first | (go_at_call 51; exact Calls.later (HL.out _))))
  refine wpQuiet_nil ?_
  rintro _ ⟨y, rfl⟩
  go_wp2_with fail
  exact bodyPost_ret (v := .bool (!d)) (by simp [results, Try.results64, go_sem]) rfl ⟨rfl, y.h⟩

/-- Numbers of rows, and the rows. -/
def NumsOf (st : XSt) (nums : List Nat) (rl : List Rw) : Prop := nums.length = rl.length ∧ ∀ (i : Nat) r, rl[i]? = some r → ∃ n, nums[i]? = some n ∧ st.rows[n]? = some r
theorem NumsOf.tag (st : XSt) (t : Int) : NumsOf st (numsF t 0 st.rows) (tagX st t) := ⟨numsF_len t st.rows 0, fun _ _ h => numsF_get t st.rows h⟩
theorem NumsOf.drop {st : XSt} {nums : List Nat} {rl : List Rw} (h : NumsOf st nums rl) (k : Nat) : NumsOf st (nums.drop k) (rl.drop k) := by
  refine ⟨by simp [h.1], fun i r hr => ?_⟩
  rw [List.getElem?_drop] at hr ⊢
  exact h.2 _ _ hr
def rowsUp (rl : List Rw) : Prop := rl.Pairwise fun a b => lessP a.pl b.pl = true
def firstN (rl : List Rw) (a : Pl) : Nat := (rl.filter fun r => lessP r.pl a).length
theorem firstN_le (rl : List Rw) (a : Pl) : firstN rl a ≤ rl.length := List.length_filter_le _ _
theorem firstN_parts {rl : List Rw} (h : rowsUp rl) (a : Pl) : rl.drop (firstN rl a) = (rl.filter fun w => !lessP w.pl a) ∧ rl.take (firstN rl a) = rl.filter fun w => lessP w.pl a := by
  induction rl with
  | nil => exact ⟨rfl, rfl⟩
  | cons x l ih =>
    obtain ⟨h1, h2⟩ := List.pairwise_cons.1 h
    obtain ⟨i1, i2⟩ := ih h2
    unfold firstN at i1 i2 ⊢
    by_cases hx : lessP x.pl a = true
    · simp only [List.filter_cons, hx, if_true, List.length_cons, List.drop_succ_cons, List.take_succ_cons, Bool.not_true, Bool.false_eq_true, if_false]
      exact ⟨i1, by rw [i2]⟩
    · have hl : ∀ y ∈ l, lessP y.pl a = false := fun y hy => by
        rw [← Bool.not_eq_true]
        exact fun e => hx (less_trans (h1 y hy) e)
      have e1 : l.filter (fun r => lessP r.pl a) = [] := List.filter_eq_nil_iff.2 fun y hy => by simp [hl y hy]
      have e2 : l.filter (fun r => !lessP r.pl a) = l := List.filter_eq_self.2 fun y hy => by simp [hl y hy]
      simp only [List.filter_cons, hx, Bool.false_eq_true, if_false, e1, e2, List.length_nil, List.drop_zero, List.take_zero, Bool.not_false, if_true]
      exact ⟨trivial, trivial⟩
theorem found_first {rl : List Rw} (h : rowsUp rl) {a : Pl} {p : Nat → Bool} {k : Nat} (hp : ∀ i w, rl[i]? = some w → p i = !lessP w.pl a) (hf : Found p rl.length k) : k = firstN rl a := by
  have h1 := (first_found h hp hf).2
  have h2 := congrArg List.length h1
  rw [List.length_take] at h2
  have := hf.1
  unfold firstN
  omega

theorem enter_first1 (v b1 b2 b3 : Value) (W : World) : (callFunc 64 (#[v] ++ #[b1, b2, b3])).run Try.prog W = .ok (.enter 64 (#[v] ++ #[b1, b2, b3])) W := by kernel_rfl

set_option maxRecDepth 100000 in
set_option maxHeartbeats 4000000 in
theorem first_any {G : Nat → Prop} {x : Nat} {st : XSt} {lv : Value} {nums : List Nat} {rl : List Rw} (a : Pl) (w : World) (h : Ix G w x st) (hl : VRow (fun _ => True) 1 natO w lv nums) (hn : NumsOf st nums rl) (hup : rowsUp rl) (hm : rl.length ≤ 4194304) :
    Calls Try.prog 57 #[.pointer (some ⟨x, 0, none⟩), lv, plV a] w fun e w' => e = .returned (.int .i64 (firstN rl a : Nat)) ∧ Below w.heap.size w w' := by
  have hb0 : Below w.heap.size w (((w.alloc (.cells #[.pointer (some ⟨x, 0, none⟩)] 70)).alloc (.cells #[lv] 24)).alloc (.cells #[.int .i64 a.1, .int .i64 a.2] 39)) := Ch.below (by (repeat (first | with_reducible assumption | with_reducible exact Ch.refl _ _ | with_reducible refine Ch.drew ?_ | with_reducible refine Ch.alloc ?_ _ | (with_reducible refine Ch.set' ?_ ?_; focus (first | (right; rfl; done) | (left; simp; done) | (left; simp; omega) | (left; omega) | (right; simp; done) | (right; simp; omega))))))
  have B1 := ((Blk.new w #[.pointer (some ⟨x, 0, none⟩)] 70).alloc (.cells #[lv] 24)).alloc (.cells #[.int .i64 a.1, .int .i64 a.2] 39)
  have B2 := (Blk.new (w.alloc (.cells #[.pointer (some ⟨x, 0, none⟩)] 70)) #[lv] 24).alloc (.cells #[.int .i64 a.1, .int .i64 a.2] 39)
  have B3 := (Blk.new ((w.alloc (.cells #[.pointer (some ⟨x, 0, none⟩)] 70)).alloc (.cells #[lv] 24)) #[.int .i64 a.1, .int .i64 a.2] 39)
  rw [show (w.alloc (.cells #[.pointer (some ⟨x, 0, none⟩)] 70)).heap.size = w.heap.size + 1 by simp] at B2
  rw [show ((w.alloc (.cells #[.pointer (some ⟨x, 0, none⟩)] 70)).alloc (.cells #[lv] 24)).heap.size = w.heap.size + 1 + 1 by simp] at B3
  obtain ⟨w0, hw0⟩ : ∃ w0, w0 = (((w.alloc (.cells #[.pointer (some ⟨x, 0, none⟩)] 70)).alloc (.cells #[lv] 24)).alloc (.cells #[.int .i64 a.1, .int .i64 a.2] 39)) := ⟨_, rfl⟩
  rw [← hw0] at hb0 B1 B2 B3
  have hlen : nums.length = rl.length := hn.1
  have HS := Lib.hid (search_any 64 #[.pointer (some ⟨w.heap.size, 0, none⟩), .pointer (some ⟨w.heap.size + 1, 0, none⟩), .pointer (some ⟨w.heap.size + 1 + 1, 0, none⟩)]
    (fun i => match rl[i]? with | some r => !lessP r.pl a | none => false) nums.length w0 (by omega) (fun v W => enter_first1 v _ _ _ W) (by
      intro W k hb hk
      obtain ⟨r, hr⟩ : ∃ r, rl[k]? = some r := ⟨_, List.getElem?_eq_getElem (by omega)⟩
      obtain ⟨n, hn1, hn2⟩ := hn.2 k r hr
      simp only [hr]
      exact first1_any a W ((h.below' hb0).below' hb) ((hl.below hb0).below hb) (B1.below hb) (B2.below hb) (B3.below hb) hn1 hn2))
  have HF := Lib.hid (fun k (hf : Found (fun i => match rl[i]? with | some r => !lessP r.pl a | none => false) nums.length k) => found_first hup (p := fun i => match rl[i]? with | some r => !lessP r.pl a | none => false) (a := a) (fun i r hr => by simp only [hr]) (by rw [← hlen]; exact hf))
  obtain ⟨av, cap, rfl, _, _⟩ := hl.slice
  have HB := Lib.hid hb0
  obtain ⟨q1, q2⟩ := B2.cells
  obtain ⟨a1, a2⟩ := a
  simp only at hw0
  unfold plV
  clear h hl hn hup hb0 B1 B2 B3 hlen
  go_enter Try.func57, Try.ntmps57
  go_wp2_with fail
  rw [← hw0]
  clear hw0
  refine HS.out.mono ?_
  rintro e w1 ⟨⟨k, rfl, hf⟩, hb1⟩
  have hk := HF.out k hf
  subst hk
  go_wp2_with fail
  go_ret
  exact ⟨rfl, HB.out.trans (hb1.mono HB.out.size)⟩

set_option maxRecDepth 100000 in
set_option maxHeartbeats 4000000 in
theorem counting1_any {G : Nat → Prop} {x : Nat} {st : XSt} {lv : Value} {nums : List Nat} {b1 b2 b3 k n : Nat} {r : Rw} (t : Int) (w : World) (h : Ix G w x st) (hl : VRow (fun _ => True) 1 natO w lv nums)
    (h1 : Blk w b1 #[.pointer (some ⟨x, 0, none⟩)] 70) (h2 : Blk w b2 #[lv] 24) (h3 : Blk w b3 #[.int .i64 t] 3) (hk : nums[k]? = some n) (hr : st.rows[n]? = some r) :
    Calls Try.prog 62 #[.int .i64 (k : Nat), .pointer (some ⟨b1, 0, none⟩), .pointer (some ⟨b2, 0, none⟩), .pointer (some ⟨b3, 0, none⟩)] w fun e w' => e = .returned (.bool (bothX st t r.pl)) ∧ Below w.heap.size w w' := by
  have HX := Lib.hid h
  obtain ⟨c, rv, mt, mi, mm, rws, i1, i2⟩ := h
  obtain ⟨g, off, cap, tv, rfl, hg, htv, hat⟩ := i1.row hr
  obtain ⟨g2, off2, cap2, rfl, hat2⟩ := hl.at hk
  have c0 : w.cell? ⟨g, off + n * 6, none⟩ = some (.int .i64 r.pl.1) := by simpa using hat 0 _ rfl
  have c1 : w.cell? ⟨g, off + n * 6 + 1, none⟩ = some (.int .i64 r.pl.2) := by simpa [Nat.add_assoc] using hat 1 _ rfl
  have c2 : w.cell? ⟨g2, off2 + k, none⟩ = some (.int .i64 (n : Nat)) := by simpa using hat2 0 _ rfl
  have m0 := (cell_spot c0).2
  have m2 := (cell_spot c2).2
  simp only at m0 m2
  obtain ⟨q1, q2⟩ := i1.box.cells
  obtain ⟨q3, q4⟩ := h1.cells
  obtain ⟨q5, q6⟩ := h2.cells
  obtain ⟨q7, q8⟩ := h3.cells
  have l0 := i1.box.lt
  have l1 := h1.lt
  have l2 := h2.lt
  have l3 := h3.lt
  have HB1 := Lib.hid h1
  have HB3 := Lib.hid h3
  have hkl := (List.getElem?_eq_some_iff.1 hk).1
  have hnl := (List.getElem?_eq_some_iff.1 hr).1
  have t1 : decide ((k : Int) < (nums.length : Int)) = true := by simpa using hkl
  have t2 : decide ((n : Int) < (st.rows.length : Int)) = true := by simpa using hnl
  have HL := Lib.hid (fun w' (hb : Below w.heap.size w w') => behind_any t r.pl w' (HX.out.below' hb))
  have HL0 := Lib.hid (fun w' (hb : Below w.heap.size w w') => behind_any 0 r.pl w' (HX.out.below' hb))
  unfold bothX
  obtain ⟨d, hd⟩ : ∃ d, behindX st t r.pl = d := ⟨_, rfl⟩
  obtain ⟨d0, hd0⟩ : ∃ d, behindX st 0 r.pl = d := ⟨_, rfl⟩
  rw [hd] at HL
  rw [hd0] at HL0
  rw [hd, hd0]
  obtain ⟨⟨pa, pb⟩, hpl⟩ : ∃ q, r.pl = q := ⟨_, rfl⟩
  rw [hpl] at HL HL0 c0 c1
  unfold plV at HL HL0
  simp only at HL HL0 c0 c1
  clear i1 i2 hl h1 h2 h3 hk hr hat hat2 hd hd0 htv hg HX hpl
  go_enter Try.func62, Try.ntmps62
  go_wp2_with fail
  go_cut [6] (fun v6 wx => v6 = .pointer (some ⟨w.heap.size, 0, none⟩) ∧ Blk wx w.heap.size #[.int .i64 pa, .int .i64 pb] 39 ∧ Below w.heap.size w wx)
  case first =>
    go_region
    all_goals
      go_wp2_with fail
      go_meet
      exact ⟨rfl, by (repeat (first | (with_reducible refine Blk.new' ?_; first | rfl | (simp; done) | (simp; omega)) | with_reducible refine Blk.drew ?_ | with_reducible refine Blk.alloc ?_ _)), Ch.below (by (repeat (first | with_reducible assumption | with_reducible exact Ch.refl _ _ | with_reducible refine Ch.drew ?_ | with_reducible refine Ch.alloc ?_ _ | (with_reducible refine Ch.set' ?_ ?_; focus (first | (right; rfl; done) | (left; simp; done) | (left; simp; omega) | (left; omega) | (right; simp; done) | (right; simp; omega))))))⟩
  case rest =>
    obtain ⟨rfl, hB, hbx⟩ := hcut
    have HBX := Lib.hid hbx
    obtain ⟨z1, z2⟩ := hB.cells
    obtain ⟨z3, z4⟩ := (HB1.out.below hbx).cells
    obtain ⟨z5, z6⟩ := (HB3.out.below hbx).cells
    have HB := Lib.hid hB
    clear hB hbx q1 q2 q3 q4 q5 q6 q7 q8 c0 c1 c2
    go_wp2_with fail
    refine (HL.out _ HBX.out).mono ?_
    rintro e w1 ⟨rfl, hb1⟩
    have HBY := Lib.hid (HBX.out.trans (hb1.mono HBX.out.size))
    obtain ⟨y1, y2⟩ := (HB.out.below hb1).cells
    obtain ⟨y3, y4⟩ := (HB1.out.below HBY.out).cells
    clear z1 z2 z3 z4 z5 z6 hb1
    cases d with
    | false =>
      go_wp2_with fail
      go_ret
      exact ⟨rfl, HBY.out⟩
    | true =>
      go_wp2_with fail
      refine (HL0.out _ HBY.out).mono ?_
      rintro e w2 ⟨rfl, hb2⟩
      go_wp2_with fail
      go_ret
      exact ⟨by simp, HBY.out.trans (hb2.mono HBY.out.size)⟩

theorem getA_mem {α β : Type} [DecidableEq α] {a : α} {b : β} : ∀ {l : List (α × β)}, getA a l = some b → (a, b) ∈ l
  | [], h => by cases h
  | p :: l, h => by
    unfold getA at h
    split at h
    · rename_i hp
      cases h
      rw [← hp]
      exact List.mem_cons_self
    · exact List.mem_cons_of_mem _ (getA_mem h)
/-- The look-up of a tag's numbers. -/
theorem GroupsX.look {c : Nat → Nat} {w : World} {mt : Nat} {f : Int → List Nat} (h : GroupsX c w mt f) (t : Int) :
    ∃ v, ORow 1 natO w 0 v (f t) ∧ (∀ g, v.ownBlock = some g → c g = 6) ∧ ∀ x : Later w, (Instr.lookup 91 (.map (some mt)) (.int .i64 t) false).run Try.prog x.w = .ok v x.w := by
  obtain ⟨h0, tl, h1, h2, h3, h4⟩ := h
  have hl := fun x : Later w => (h1.below x.h).look keyI Try.underlying91 (zeroInts _) t false
  have hf := h2 t
  cases hg : getA t tl with
  | none =>
    rw [hg] at hl hf
    rw [← hf]
    exact ⟨.slice none 0 0, ORow.nil _ _, (fun g e => by simp [Value.ownBlock] at e), hl⟩
  | some p =>
    rw [hg] at hl hf
    rw [← hf]
    obtain ⟨r1, r2⟩ := h3 _ (getA_mem hg)
    exact ⟨p.1, r1, r2, hl⟩

def CountPost (st : XSt) (t : Int) (w : World) (e : Ending) (w' : World) : Prop :=
  ∃ v nums, e = .returned v ∧ VRow (fun _ => True) 1 natO w' v nums ∧ NumsOf st nums (countX st t) ∧ Below w.heap.size w w'
theorem enter_counting1 (v b1 b2 b3 : Value) (W : World) : (callFunc 62 (#[v] ++ #[b1, b2, b3])).run Try.prog W = .ok (.enter 62 (#[v] ++ #[b1, b2, b3])) W := by kernel_rfl
theorem sizeInt (w : World) : (sizeOf 3).run Try.prog w = .ok 1 w := by kernel_rfl

set_option maxRecDepth 100000 in
set_option maxHeartbeats 4000000 in
theorem counting_any {G : Nat → Prop} {x : Nat} {st : XSt} (t : Int) (w : World) (h : Ix G w x st) (hgd : GoodX st) (hm : st.rows.length ≤ 4194304) :
    Calls Try.prog 54 #[.pointer (some ⟨x, 0, none⟩), .int .i64 t] w (CountPost st t w) := by
  have hb0 := below2 w (.cells #[.pointer (some ⟨x, 0, none⟩)] 70) (.cells #[.int .i64 t] 3)
  have B1 := (Blk.new w #[.pointer (some ⟨x, 0, none⟩)] 70).alloc (.cells #[.int .i64 t] 3)
  have B2 := (Blk.new (w.alloc (.cells #[.pointer (some ⟨x, 0, none⟩)] 70)) #[.int .i64 t] 3)
  rw [show (w.alloc (.cells #[.pointer (some ⟨x, 0, none⟩)] 70)).heap.size = w.heap.size + 1 by simp] at B2
  obtain ⟨w0, hw0⟩ : ∃ w0, w0 = (w.alloc (.cells #[.pointer (some ⟨x, 0, none⟩)] 70)).alloc (.cells #[.int .i64 t] 3) := ⟨_, rfl⟩
  rw [← hw0] at hb0 B1 B2
  have hx0 := h.below' hb0
  have HX := Lib.hid hx0
  obtain ⟨c, rv, mt, mi, mm, rws, i1, i2⟩ := hx0
  obtain ⟨v, hv1, hv2, hlk⟩ := i1.grp.look t
  have hvr : VRow (fun _ => True) 1 natO w0 v (numsF t 0 st.rows) := VRow.of_own natO_len hv1 (fun _ _ => trivial)
  have hno := NumsOf.tag st t
  have hcf := fun k (hf : Found (fun i => match (tagX st t)[i]? with | some r => bothX st t r.pl | none => false) (tagX st t).length k) => count_found hgd (t := t) (p := fun i => match (tagX st t)[i]? with | some r => bothX st t r.pl | none => false) (k := k) (fun i r hr => by simp only [hr]) hf
  have htl : (tagX st t).length ≤ 4194304 := Nat.le_trans (List.length_filter_le _ _) hm
  obtain ⟨nums, hnums⟩ : ∃ nums, numsF t 0 st.rows = nums := ⟨_, rfl⟩
  rw [hnums] at hvr hno hv1
  have hlk2 := hlk ⟨w0.drew, (Below.refl _ _).drew⟩
  have hlk3 := hlk ⟨(w0.alloc (.cells #[.slice none 0 0] 24)).drew, (below1 w0 _).drew⟩
  simp only at hlk2 hlk3
  obtain ⟨q1, q2⟩ := i1.box.cells
  obtain ⟨q3, q4⟩ := B1.cells
  obtain ⟨q5, q6⟩ := B2.cells
  have HS := Lib.hid (fun wc (hb : Below w0.heap.size w0 wc) (hB : Blk wc w0.heap.size #[v] 24) => search_any 62 #[.pointer (some ⟨w.heap.size, 0, none⟩), .pointer (some ⟨w0.heap.size, 0, none⟩), .pointer (some ⟨w.heap.size + 1, 0, none⟩)]
    (fun i => match (tagX st t)[i]? with | some r => bothX st t r.pl | none => false) nums.length wc (by have := hno.1; omega) (fun v W => enter_counting1 v _ _ _ W) (by
      intro W k hb2 hk
      obtain ⟨r, hr⟩ : ∃ r, (tagX st t)[k]? = some r := ⟨_, List.getElem?_eq_getElem (by have := hno.1; omega)⟩
      obtain ⟨n, hn1, hn2⟩ := hno.2 k r hr
      simp only [hr]
      exact counting1_any t W ((HX.out.below' hb).below' hb2) ((hvr.below hb).below hb2) ((B1.below hb).below hb2) (hB.below hb2) ((B2.below hb).below hb2) hn1 hn2))
  obtain ⟨av, cap, rfl, _, _⟩ := hvr.slice
  have hsl := fun k (hk : k ≤ nums.length) W => run_slice_from (P := Try.prog) (w := W) (t := 24) Try.underlying24 (sizeInt W) av nums.length cap k hk
  have HSL := Lib.hid hsl
  have HVR := Lib.hid hvr
  have HNO := Lib.hid hno
  have HCF := Lib.hid hcf
  have HB := Lib.hid hb0
  have HB1 := Lib.hid B1
  have HB2 := Lib.hid B2
  have l0 := i1.box.lt
  have l1 := B1.lt
  have l2 := B2.lt
  clear h i1 i2 hlk hv1 hv2 hvr hno hcf hnums hgd hm B1 B2 hsl htl hb0
  go_enter Try.func54, Try.ntmps54
  go_wp2_with fail
  rw [← hw0]
  clear hw0
  go_cut [5] (fun v5 wx => v5 = .pointer (some ⟨w0.heap.size, 0, none⟩) ∧ Blk wx w0.heap.size #[.slice av nums.length cap] 24 ∧ Below w0.heap.size w0 wx)
  case first =>
    go_region
    all_goals
      go_wp2_with fail
      go_meet
      exact ⟨rfl, by (repeat (first | (with_reducible refine Blk.new' ?_; first | rfl | (simp; done) | (simp; omega)) | with_reducible refine Blk.drew ?_ | with_reducible refine Blk.alloc ?_ _)), Ch.below (by (repeat (first | with_reducible assumption | with_reducible exact Ch.refl _ _ | with_reducible refine Ch.drew ?_ | with_reducible refine Ch.alloc ?_ _ | (with_reducible refine Ch.set' ?_ ?_; focus (first | (right; rfl; done) | (left; simp; done) | (left; simp; omega) | (left; omega) | (right; simp; done) | (right; simp; omega))))))⟩
  case rest =>
    obtain ⟨rfl, hB, hbx⟩ := hcut
    have HSS := Lib.hid (HS.out wc hbx hB)
    have HBX := Lib.hid hbx
    obtain ⟨z1, z2⟩ := hB.cells
    have HB5 := Lib.hid hB
    clear hlk2 hlk3 q1 q2 q3 q4 q5 q6 hB hbx HS
    go_wp2_with fail
    refine HSS.out.mono ?_
    rintro e w1 ⟨⟨k, rfl, hf⟩, hb1⟩
    have hkl := hf.1
    have hsl := HSL.out k hkl w1
    have HN := Lib.hid (HNO.out.drop k)
    have hcf := HCF.out k (by rw [← HNO.out.1]; exact hf)
    rw [hcf] at HN
    have HVD := Lib.hid (((HVR.out.below HBX.out).below hb1).drop hkl)
    obtain ⟨y1, y2⟩ := (HB5.out.below hb1).cells
    have HBF := Lib.hid ((HB.out.trans (HBX.out.mono HB.out.size)).trans (hb1.mono (Nat.le_trans HB.out.size HBX.out.size)))
    clear hf z1 z2 hcf hb1
    go_wp2_with fail
    exact bodyPost_ret (v := cutV 1 (.slice av nums.length cap) k) (by simp [results, Try.results54, go_sem]) rfl ⟨_, _, rfl, HVD.out, HN.out, HBF.out⟩
end Go.Proofs.Ytpdibjaeopcimaa
