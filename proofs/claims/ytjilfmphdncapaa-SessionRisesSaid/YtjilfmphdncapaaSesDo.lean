/- The contract of the reference's Do: a theorem a kind of call. -/
import Derived.Test.YtjilfmphdncapaaSesRow
import Derived.Test.YtjilfmphdncapaaSesRef
set_option linter.unusedVariables false
set_option linter.unusedSimpArgs false
namespace Go.Proofs.Ytjilfmphdncapaa
open Go.RowKit

theorem infoSn : (Try.prog.info? 36).map (fun i => (i.zero, i.size, i.bytes)) = some (some (.agg #[.int .i64 0, .int .i64 0, .int .i64 0, .int .i64 0]), 4, 32) := by kernel_rfl

theorem flat_one (sts : List Sn) : ∀ u ∈ sts.flatMap Sn.out, u.oneCell' = true := by
  intro u hu
  obtain ⟨s, _, h⟩ := List.mem_flatMap.1 hu
  simp [Sn.out] at h
  rcases h with rfl | rfl | rfl | rfl <;> rfl

/-- What Do leaves. -/
def DoPost (base : Nat) (r : List Sn × AnsD) (w : World) (e : Ending) (w' : World) : Prop :=
  ∃ v', e = .returned (.tuple #[v', .agg r.2.cells]) ∧ RefRow w' base v' r.1 ∧ Below w.heap.size w w'

/-- Do's own boxes and rows, behind its copy: the call's, the answer's (two), the session's; the row that came in (at g), its copy (at g5). -/
structure DoSt (w0 w : World) (base g cap g5 cap5 sb : Nat) (sts : List Sn) (ok who ox oa1 oa2 e c n sc sm st sn : Int) : Prop where
  bo : Blk w w0.heap.size #[.int .i64 ok, .int .i64 who, .int .i64 ox, .int .i64 oa1, .int .i64 oa2] 39
  br : Blk w (w0.heap.size + 1) #[.int .i64 0, .int .i64 0, .int .i64 0] 43
  ba : Blk w (w0.heap.size + 1 + 1) #[.int .i64 e, .int .i64 c, .int .i64 n] 43
  bs : Blk w sb #[.int .i64 sc, .int .i64 sm, .int .i64 st, .int .i64 sn] 36
  row : RefRow w base (.slice (some ⟨g5, 0, none⟩) sts.length cap5) sts
  old : RefRow w base (.slice (some ⟨g, 0, none⟩) sts.length cap) sts
  ch : Ch (fun _ => False) w0 w
  hg : w0.heap.size + 3 ≤ g5
  hs : w0.heap.size + 3 ≤ sb
  hgs : g5 ≠ sb
  hg0 : g < w0.heap.size
theorem DoSt.below {w0 w w1 : World} {base g cap g5 cap5 sb : Nat} {sts : List Sn} {ok who ox oa1 oa2 e c n sc sm st sn : Int} (h : DoSt w0 w base g cap g5 cap5 sb sts ok who ox oa1 oa2 e c n sc sm st sn) (hb : Below w.heap.size w w1) : DoSt w0 w1 base g cap g5 cap5 sb sts ok who ox oa1 oa2 e c n sc sm st sn :=
  ⟨h.bo.below hb, h.br.below hb, h.ba.below hb, h.bs.below hb, h.row.below (Ch.of_below (fun _ => False) hb) (fun _ _ => id), h.old.below (Ch.of_below (fun _ => False) hb) (fun _ _ => id), h.ch.call hb, h.hg, h.hs, h.hgs, h.hg0⟩
theorem DoSt.drew {w0 w : World} {base g cap g5 cap5 sb : Nat} {sts : List Sn} {ok who ox oa1 oa2 e c n sc sm st sn : Int} (h : DoSt w0 w base g cap g5 cap5 sb sts ok who ox oa1 oa2 e c n sc sm st sn) : DoSt w0 w.drew base g cap g5 cap5 sb sts ok who ox oa1 oa2 e c n sc sm st sn :=
  ⟨h.bo, h.br, h.ba, h.bs, h.row.drew, h.old.drew, h.ch.drew, h.hg, h.hs, h.hgs, h.hg0⟩
/-- The answer's error is stored. -/
theorem DoSt.err {w0 w : World} {base g cap g5 cap5 sb : Nat} {sts : List Sn} {ok who ox oa1 oa2 e c n sc sm st sn : Int} (h : DoSt w0 w base g cap g5 cap5 sb sts ok who ox oa1 oa2 e c n sc sm st sn) (x : Int) :
    DoSt w0 (w.setCell ⟨w0.heap.size + 1 + 1, 0, none⟩ (.int .i64 x)) base g cap g5 cap5 sb sts ok who ox oa1 oa2 x c n sc sm st sn :=
  ⟨h.bo.far (by simp; omega) _, h.br.far (by simp) _, h.ba.set 0 _, h.bs.far (by have := h.hs; simp; omega) _, h.row.far (by have := h.hg; simp; omega), h.old.far (by have := h.hg0; simp; omega), h.ch.set (.inl (by simp; omega)) _, h.hg, h.hs, h.hgs, h.hg0⟩
/-- What the walk reads. -/
theorem DoSt.cells {w0 w : World} {base g cap g5 cap5 sb : Nat} {sts : List Sn} {ok who ox oa1 oa2 e c n sc sm st sn : Int} (h : DoSt w0 w base g cap g5 cap5 sb sts ok who ox oa1 oa2 e c n sc sm st sn) :
    (∀ o, w.cell? ⟨w0.heap.size, o, none⟩ = #[.int .i64 ok, .int .i64 who, .int .i64 ox, .int .i64 oa1, .int .i64 oa2][o]?) ∧
    (∀ o, w.cell? ⟨w0.heap.size + 1, o, none⟩ = #[.int .i64 0, .int .i64 0, .int .i64 0][o]?) ∧ (∀ o, w.frozen? ⟨w0.heap.size + 1, o, none⟩ = false) ∧
    (∀ o, w.cell? ⟨w0.heap.size + 1 + 1, o, none⟩ = #[.int .i64 e, .int .i64 c, .int .i64 n][o]?) ∧ (∀ o, w.frozen? ⟨w0.heap.size + 1 + 1, o, none⟩ = false) ∧
    (∀ o, w.cell? ⟨sb, o, none⟩ = #[.int .i64 sc, .int .i64 sm, .int .i64 st, .int .i64 sn][o]?) ∧ (∀ o, w.frozen? ⟨sb, o, none⟩ = false) ∧
    (∀ j, w.frozen? ⟨g5, j, none⟩ = false) ∧ w0.heap.size < w.heap.size ∧ w0.heap.size + 1 < w.heap.size ∧ w0.heap.size + 1 + 1 < w.heap.size ∧ sb < w.heap.size ∧ g5 < w.heap.size :=
  ⟨h.bo.cell, h.br.cell, h.br.free, h.ba.cell, h.ba.free, h.bs.cell, h.bs.free, h.row.own.frozenAt, h.bo.lt, h.br.lt, h.ba.lt, h.bs.lt, (h.row.own.lt g5 rfl).2⟩
/-- The row's own cells. -/
theorem DoSt.at {w0 w : World} {base g cap g5 cap5 sb : Nat} {sts : List Sn} {ok who ox oa1 oa2 e c n sc sm st sn : Int} (h : DoSt w0 w base g cap g5 cap5 sb sts ok who ox oa1 oa2 e c n sc sm st sn) {i : Nat} {s : Sn} (hi : sts[i]? = some s) :
    w.cell? ⟨g5, i * 4, none⟩ = some (.int .i64 s.c) ∧ w.cell? ⟨g5, i * 4 + 1, none⟩ = some (.int .i64 s.m) ∧ w.cell? ⟨g5, i * 4 + 2, none⟩ = some (.int .i64 s.t) ∧ w.cell? ⟨g5, i * 4 + 3, none⟩ = some (.int .i64 s.n) := by
  obtain ⟨_, _, he, _, _, hcell, hfr⟩ := h.row.at hi
  obtain ⟨rfl, rfl⟩ : g5 = _ ∧ cap5 = _ := by simpa using he
  exact ⟨hcell 0 (by omega), hcell 1 (by omega), hcell 2 (by omega), hcell 3 (by omega)⟩
theorem DoSt.atOld {w0 w : World} {base g cap g5 cap5 sb : Nat} {sts : List Sn} {ok who ox oa1 oa2 e c n sc sm st sn : Int} (h : DoSt w0 w base g cap g5 cap5 sb sts ok who ox oa1 oa2 e c n sc sm st sn) {i : Nat} {s : Sn} (hi : sts[i]? = some s) :
    w.cell? ⟨g, i * 4, none⟩ = some (.int .i64 s.c) ∧ w.cell? ⟨g, i * 4 + 1, none⟩ = some (.int .i64 s.m) ∧ w.cell? ⟨g, i * 4 + 2, none⟩ = some (.int .i64 s.t) ∧ w.cell? ⟨g, i * 4 + 3, none⟩ = some (.int .i64 s.n) := by
  obtain ⟨_, _, he, _, _, hcell, hfr⟩ := h.old.at hi
  obtain ⟨rfl, rfl⟩ : g = _ ∧ cap = _ := by simpa using he
  exact ⟨hcell 0 (by omega), hcell 1 (by omega), hcell 2 (by omega), hcell 3 (by omega)⟩

set_option maxHeartbeats 2000000 in
set_option maxRecDepth 100000 in
theorem do_id (base : Nat) (v : Value) (sts : List Sn) (i : Nat) (s : Sn) (x a1 a2 : Int) (w : World) (h : RefRow w base v sts) (hi : sts[i]? = some s) (hl : sts.length ≤ 1000) (hbase : base ≤ w.heap.size) (hm0 : 0 ≤ s.m) (hm1 : s.m < 1099511627776) :
    Calls Try.prog 13 #[v, .agg #[.int .i64 2, .int .i64 i, .int .i64 x, .int .i64 a1, .int .i64 a2]] w (DoPost base (sts.set i ⟨s.c, s.m + 1, s.t, s.n⟩, ⟨0, s.c, s.m⟩) w) := by
  obtain ⟨i0, hinfo, hz0, hz1, hz2⟩ := info_parts infoSn
  obtain ⟨g, cap, rfl, hg, hbg, hcell, hfr⟩ := h.at hi
  have hlt := (List.getElem?_eq_some_iff.1 hi).1
  have h1 : decide ((i : Int) < 0) = false := by simp
  have h2 : decide (sts.length ≤ i) = false := by simp; omega
  have HD := h.below (Ch.of_below (fun _ => False) (doesStart_below w ⟨2, i, x, a1, a2⟩)) (fun _ _ => id)
  have hnews := Lib.hid (((HD.own.alloc (.cells #[] 36))).cells (g := g) rfl)
  have HR := Lib.hid HD
  have hown0 : ((doesStart w ⟨2, i, x, a1, a2⟩).alloc (.cells #[] 36)).ownsRow base 36 4 (.slice (some ⟨w.heap.size + 1 + 1 + 1, 0, none⟩) 0 0) 0 [] := by
    have := World.ownsRow_lit (e := 36) (size := 4) (base := base) (doesStart w ⟨2, i, x, a1, a2⟩) #[] 0 (by simp; omega) (by simp [maxLen]) (by simp)
    simpa using this
  have HO := Lib.hid hown0
  have hsz : ((doesStart w ⟨2, i, x, a1, a2⟩).alloc (.cells #[] 36)).heap.size = w.heap.size + 4 := by simp
  have HI := Lib.hid hi
  clear h hi hcell hfr HD hown0
  go_enter Try.func13, Try.ntmps13
  go_upto_region 4 with fail
  go_wp2_with (at_builtin; refine wpList_append_lies _ rfl (.tmp 21) (.tmp 22) 37 rfl base 36 i0 (.agg #[.int .i64 0, .int .i64 0, .int .i64 0, .int .i64 0]) 4 32 Try.underlying37 hinfo hz0 hz1 hz2 rfl (by decide) _ _ _ rfl HO.out ⟨g, 0, none⟩ sts.length cap (sts.flatMap Sn.out) rfl ?c0 hnews.out ?c2 ?c25 ?c3 ?c4 ?c5 (w.heap.size + 4) hsz ?_)
  case c0 => exact flat_len Sn.out_len sts
  case c2 => exact flat_one sts
  case c25 => omega
  case c3 => unfold maxLen; omega
  case c4 => omega
  case c5 => simp; omega
  intro g5 cap5 w5 hown5 hgrow hg5 hlt5
  (try simp only [Nat.zero_add, List.nil_append] at hown5)
  have hgo : ∀ k, some k = (Value.slice (some ⟨w.heap.size + 1 + 1 + 1, 0, none⟩) 0 0).ownBlock → k = w.heap.size + 3 := fun k e => by simpa [Value.ownBlock] using e
  have cg := (Ch.of_grown hgrow).mono (S' := (· = w.heap.size + 3)) hgo
  have hg5' : w.heap.size + 3 ≤ g5 := by
    rcases hg5 with h | h
    · have := hgo g5 h.symm; omega
    · omega
  have D5 := Lib.hid (show DoSt w (w5.alloc (.cells #[.int .i64 s.c, .int .i64 s.m, .int .i64 s.t, .int .i64 s.n] 36)) base g cap g5 cap5 w5.heap.size sts 2 i x a1 a2 0 0 0 s.c s.m s.t s.n from
    ⟨(((doesStart_box w ⟨2, i, x, a1, a2⟩).alloc (.cells #[] 36)).ch cg (by omega)).alloc _, (((doesStart_boxes w ⟨2, i, x, a1, a2⟩).1.alloc (.cells #[] 36)).ch cg (by omega)).alloc _,
     (((doesStart_boxes w ⟨2, i, x, a1, a2⟩).2.alloc (.cells #[] 36)).ch cg (by omega)).alloc _, Blk.new _ _ _, RefRow.alloc ⟨hown5⟩ _,
     ((HR.out.alloc (.cells #[] 36)).below cg (fun k hk e => by have e2 : g = k := (by simpa [Value.ownBlock] using hk); omega)).alloc _,
     (((Ch.of_below (fun _ => False) (doesStart_below w ⟨2, i, x, a1, a2⟩)).alloc (.cells #[] 36)).step cg (fun k hk e => by omega)).alloc _,
     hg5', by have := Nat.le_trans (Nat.le_of_eq hsz.symm) cg.size; omega, by have := (World.ownsRow.lt hown5 g5 rfl).2; omega, hg⟩)
  obtain ⟨qo, qr, rr, qa, ra, qs, rs, rg, l1, l2, l3, l4, l5⟩ := D5.out.cells
  obtain ⟨c0, c1, c2, c3⟩ := D5.out.at HI.out
  have hlw : g5 < w5.heap.size := hlt5
  have e0 : w5.cell? ⟨g5, i * 4, none⟩ = some (.int .i64 s.c) := by rw [← c0, World.cell?_alloc_past _ _ _ hlw]
  have e1 : w5.cell? ⟨g5, i * 4 + 1, none⟩ = some (.int .i64 s.m) := by rw [← c1, World.cell?_alloc_past _ _ _ hlw]
  have e2 : w5.cell? ⟨g5, i * 4 + 2, none⟩ = some (.int .i64 s.t) := by rw [← c2, World.cell?_alloc_past _ _ _ hlw]
  have e3 : w5.cell? ⟨g5, i * 4 + 3, none⟩ = some (.int .i64 s.n) := by rw [← c3, World.cell?_alloc_past _ _ _ hlw]
  have BO : Blk w5 w.heap.size #[.int .i64 2, .int .i64 i, .int .i64 x, .int .i64 a1, .int .i64 a2] 39 := ((doesStart_box w ⟨2, i, x, a1, a2⟩).alloc (.cells #[] 36)).ch cg (by omega)
  obtain ⟨po, po2⟩ := BO.cells
  have lo := BO.lt
  clear hg5 hgo cg hown5 hgrow HO hnews hsz BO c0 c1 c2 c3 HR
  go_upto_region 6 with fail
  generalize hw6 : w5.alloc (.cells #[.int .i64 s.c, .int .i64 s.m, .int .i64 s.t, .int .i64 s.n] 36) = w6 at D5 ⊢
  generalize hsb : w5.heap.size = sb at D5 ⊢
  have HG1 := D5.out.hg
  have HG2 := D5.out.hs
  have HG3 := D5.out.hgs
  have n1 : ¬ sb = w.heap.size + 1 := by omega
  have n2 : ¬ sb = w.heap.size + 1 + 1 := by omega
  have n3 : ¬ g5 = w.heap.size + 1 := by omega
  have n4 : ¬ g5 = w.heap.size + 1 + 1 := by omega
  have n5 : ¬ w.heap.size + 1 = sb := by omega
  have n6 : ¬ w.heap.size + 1 + 1 = sb := by omega
  have n7 : ¬ w.heap.size + 1 = g5 := by omega
  have n8 : ¬ w.heap.size + 1 + 1 = g5 := by omega
  have n9 : ¬ sb = g5 := by omega
  clear hw6 hsb qo qr rr qa ra qs rs rg l1 l2 l3 l4 l5 e0 e1 e2 e3 po po2 lo hlw hlt5 hg5' w5
  obtain ⟨qo, qr, rr, qa, ra, qs, rs, rg, l1, l2, l3, l4, l5⟩ := D5.out.cells
  obtain ⟨e0, e1, e2, e3⟩ := D5.out.at HI.out
  have KR5 := Lib.hid D5.out.row
  have C6 := D5.out.ch
  clear D5
  go_wp2_with fail
  go_region
  all_goals
    go_wp2
    refine bodyPost_ret (v := .tuple #[.slice (some ⟨g5, 0, none⟩) sts.length cap5, .agg #[.int .i64 0, .int .i64 s.c, .int .i64 s.m]]) (by simp [results, Try.results13, go_sem, qr, qa, l1, l2, l3, l4, l5, n3, n7]) rfl ⟨_, rfl, ?_, ?_⟩
    · (repeat (first | with_reducible exact KR5.out | with_reducible refine RefRow.drew ?_ | with_reducible refine RefRow.alloc ?_ _ | with_reducible refine RefRow.set' hlt ?_ | (with_reducible refine RefRow.far ?_ ?_; focus (first | omega | (simp; omega)))))
    · refine Ch.below ?_
      (repeat (first | with_reducible assumption | with_reducible exact Ch.refl _ _ | with_reducible refine Ch.drew ?_ | with_reducible refine Ch.alloc ?_ _ | (with_reducible refine Ch.set' ?_ ?_; focus (first | (right; rfl; done) | (left; simp; done) | (left; simp; omega) | (left; omega) | (right; simp; done) | (right; simp; omega)))))

set_option maxHeartbeats 2000000 in
set_option maxRecDepth 100000 in
theorem do_read_bad (base : Nat) (v : Value) (sts : List Sn) (i : Nat) (s : Sn) (x a1 a2 : Int) (w : World) (h : RefRow w base v sts) (hi : sts[i]? = some s) (hl : sts.length ≤ 1000) (hbase : base ≤ w.heap.size) (hr : rightB a1 a2 = false) :
    Calls Try.prog 13 #[v, .agg #[.int .i64 0, .int .i64 i, .int .i64 x, .int .i64 a1, .int .i64 a2]] w (DoPost base (sts.set i ⟨s.c, s.m, s.t, s.n⟩, ⟨1, 0, 0⟩) w) := by
  obtain ⟨i0, hinfo, hz0, hz1, hz2⟩ := info_parts infoSn
  have HX := Lib.hid hr; clear hr
  obtain ⟨g, cap, rfl, hg, hbg, hcell, hfr⟩ := h.at hi
  have hlt := (List.getElem?_eq_some_iff.1 hi).1
  have h1 : decide ((i : Int) < 0) = false := by simp
  have h2 : decide (sts.length ≤ i) = false := by simp; omega
  have HD := h.below (Ch.of_below (fun _ => False) (doesStart_below w ⟨0, i, x, a1, a2⟩)) (fun _ _ => id)
  have hnews := Lib.hid (((HD.own.alloc (.cells #[] 36))).cells (g := g) rfl)
  have HR := Lib.hid HD
  have hown0 : ((doesStart w ⟨0, i, x, a1, a2⟩).alloc (.cells #[] 36)).ownsRow base 36 4 (.slice (some ⟨w.heap.size + 1 + 1 + 1, 0, none⟩) 0 0) 0 [] := by
    have := World.ownsRow_lit (e := 36) (size := 4) (base := base) (doesStart w ⟨0, i, x, a1, a2⟩) #[] 0 (by simp; omega) (by simp [maxLen]) (by simp)
    simpa using this
  have HO := Lib.hid hown0
  have hsz : ((doesStart w ⟨0, i, x, a1, a2⟩).alloc (.cells #[] 36)).heap.size = w.heap.size + 4 := by simp
  have HI := Lib.hid hi
  clear h hi hcell hfr HD hown0
  go_enter Try.func13, Try.ntmps13
  go_upto_region 4 with fail
  go_wp2_with (at_builtin; refine wpList_append_lies _ rfl (.tmp 21) (.tmp 22) 37 rfl base 36 i0 (.agg #[.int .i64 0, .int .i64 0, .int .i64 0, .int .i64 0]) 4 32 Try.underlying37 hinfo hz0 hz1 hz2 rfl (by decide) _ _ _ rfl HO.out ⟨g, 0, none⟩ sts.length cap (sts.flatMap Sn.out) rfl ?c0 hnews.out ?c2 ?c25 ?c3 ?c4 ?c5 (w.heap.size + 4) hsz ?_)
  case c0 => exact flat_len Sn.out_len sts
  case c2 => exact flat_one sts
  case c25 => omega
  case c3 => unfold maxLen; omega
  case c4 => omega
  case c5 => simp; omega
  intro g5 cap5 w5 hown5 hgrow hg5 hlt5
  (try simp only [Nat.zero_add, List.nil_append] at hown5)
  have hgo : ∀ k, some k = (Value.slice (some ⟨w.heap.size + 1 + 1 + 1, 0, none⟩) 0 0).ownBlock → k = w.heap.size + 3 := fun k e => by simpa [Value.ownBlock] using e
  have cg := (Ch.of_grown hgrow).mono (S' := (· = w.heap.size + 3)) hgo
  have hg5' : w.heap.size + 3 ≤ g5 := by
    rcases hg5 with h | h
    · have := hgo g5 h.symm; omega
    · omega
  have D5 := Lib.hid (show DoSt w (w5.alloc (.cells #[.int .i64 s.c, .int .i64 s.m, .int .i64 s.t, .int .i64 s.n] 36)) base g cap g5 cap5 w5.heap.size sts 0 i x a1 a2 0 0 0 s.c s.m s.t s.n from
    ⟨(((doesStart_box w ⟨0, i, x, a1, a2⟩).alloc (.cells #[] 36)).ch cg (by omega)).alloc _, (((doesStart_boxes w ⟨0, i, x, a1, a2⟩).1.alloc (.cells #[] 36)).ch cg (by omega)).alloc _,
     (((doesStart_boxes w ⟨0, i, x, a1, a2⟩).2.alloc (.cells #[] 36)).ch cg (by omega)).alloc _, Blk.new _ _ _, RefRow.alloc ⟨hown5⟩ _,
     ((HR.out.alloc (.cells #[] 36)).below cg (fun k hk e => by have e2 : g = k := (by simpa [Value.ownBlock] using hk); omega)).alloc _,
     (((Ch.of_below (fun _ => False) (doesStart_below w ⟨0, i, x, a1, a2⟩)).alloc (.cells #[] 36)).step cg (fun k hk e => by omega)).alloc _,
     hg5', by have := Nat.le_trans (Nat.le_of_eq hsz.symm) cg.size; omega, by have := (World.ownsRow.lt hown5 g5 rfl).2; omega, hg⟩)
  obtain ⟨qo, qr, rr, qa, ra, qs, rs, rg, l1, l2, l3, l4, l5⟩ := D5.out.cells
  obtain ⟨c0, c1, c2, c3⟩ := D5.out.at HI.out
  have hlw : g5 < w5.heap.size := hlt5
  have e0 : w5.cell? ⟨g5, i * 4, none⟩ = some (.int .i64 s.c) := by rw [← c0, World.cell?_alloc_past _ _ _ hlw]
  have e1 : w5.cell? ⟨g5, i * 4 + 1, none⟩ = some (.int .i64 s.m) := by rw [← c1, World.cell?_alloc_past _ _ _ hlw]
  have e2 : w5.cell? ⟨g5, i * 4 + 2, none⟩ = some (.int .i64 s.t) := by rw [← c2, World.cell?_alloc_past _ _ _ hlw]
  have e3 : w5.cell? ⟨g5, i * 4 + 3, none⟩ = some (.int .i64 s.n) := by rw [← c3, World.cell?_alloc_past _ _ _ hlw]
  have BO : Blk w5 w.heap.size #[.int .i64 0, .int .i64 i, .int .i64 x, .int .i64 a1, .int .i64 a2] 39 := ((doesStart_box w ⟨0, i, x, a1, a2⟩).alloc (.cells #[] 36)).ch cg (by omega)
  obtain ⟨po, po2⟩ := BO.cells
  have lo := BO.lt
  clear hg5 hgo cg hown5 hgrow HO hnews hsz BO c0 c1 c2 c3 HR
  go_upto_region 6 with fail
  generalize hw6 : w5.alloc (.cells #[.int .i64 s.c, .int .i64 s.m, .int .i64 s.t, .int .i64 s.n] 36) = w6 at D5 ⊢
  generalize hsb : w5.heap.size = sb at D5 ⊢
  have HG1 := D5.out.hg
  have HG2 := D5.out.hs
  have HG3 := D5.out.hgs
  have n1 : ¬ sb = w.heap.size + 1 := by omega
  have n2 : ¬ sb = w.heap.size + 1 + 1 := by omega
  have n3 : ¬ g5 = w.heap.size + 1 := by omega
  have n4 : ¬ g5 = w.heap.size + 1 + 1 := by omega
  have n5 : ¬ w.heap.size + 1 = sb := by omega
  have n6 : ¬ w.heap.size + 1 + 1 = sb := by omega
  have n7 : ¬ w.heap.size + 1 = g5 := by omega
  have n8 : ¬ w.heap.size + 1 + 1 = g5 := by omega
  have n9 : ¬ sb = g5 := by omega
  clear hw6 hsb qo qr rr qa ra qs rs rg l1 l2 l3 l4 l5 e0 e1 e2 e3 po po2 lo hlw hlt5 hg5' w5
  obtain ⟨qo, qr, rr, qa, ra, qs, rs, rg, l1, l2, l3, l4, l5⟩ := D5.out.cells
  obtain ⟨e0, e1, e2, e3⟩ := D5.out.at HI.out
  go_wp2_with fail
  refine (refRight_any a1 a2 _).mono ?_
  rintro e w' ⟨rfl, hb⟩
  have D6 := Lib.hid (D5.out.below hb)
  clear qo qr rr qa ra qs rs rg l1 l2 l3 l4 l5 e0 e1 e2 e3
  clear hb D5
  obtain ⟨qo, qr, rr, qa, ra, qs, rs, rg, l1, l2, l3, l4, l5⟩ := D6.out.cells
  obtain ⟨e0, e1, e2, e3⟩ := D6.out.at HI.out
  rw [HX.out]
  have KR5 := Lib.hid D6.out.row
  have C6 := D6.out.ch
  clear D6
  go_wp2_with fail
  go_region
  all_goals
    go_wp2
    refine bodyPost_ret (v := .tuple #[.slice (some ⟨g5, 0, none⟩) sts.length cap5, .agg #[.int .i64 1, .int .i64 0, .int .i64 0]]) (by simp [results, Try.results13, go_sem, qr, qa, l1, l2, l3, l4, l5, n3, n7]) rfl ⟨_, rfl, ?_, ?_⟩
    · (repeat (first | with_reducible exact KR5.out | with_reducible refine RefRow.drew ?_ | with_reducible refine RefRow.alloc ?_ _ | with_reducible refine RefRow.set' hlt ?_ | (with_reducible refine RefRow.far ?_ ?_; focus (first | omega | (simp; omega)))))
    · refine Ch.below ?_
      (repeat (first | with_reducible assumption | with_reducible exact Ch.refl _ _ | with_reducible refine Ch.drew ?_ | with_reducible refine Ch.alloc ?_ _ | (with_reducible refine Ch.set' ?_ ?_; focus (first | (right; rfl; done) | (left; simp; done) | (left; simp; omega) | (left; omega) | (right; simp; done) | (right; simp; omega)))))

set_option maxHeartbeats 2000000 in
set_option maxRecDepth 100000 in
theorem do_wrote_bad (base : Nat) (v : Value) (sts : List Sn) (i : Nat) (s : Sn) (x a1 a2 : Int) (w : World) (h : RefRow w base v sts) (hi : sts[i]? = some s) (hl : sts.length ≤ 1000) (hbase : base ≤ w.heap.size) (hr : rightB a1 a2 = false) :
    Calls Try.prog 13 #[v, .agg #[.int .i64 1, .int .i64 i, .int .i64 x, .int .i64 a1, .int .i64 a2]] w (DoPost base (sts.set i ⟨s.c, s.m, s.t, s.n⟩, ⟨1, 0, 0⟩) w) := by
  obtain ⟨i0, hinfo, hz0, hz1, hz2⟩ := info_parts infoSn
  have HX := Lib.hid hr; clear hr
  obtain ⟨g, cap, rfl, hg, hbg, hcell, hfr⟩ := h.at hi
  have hlt := (List.getElem?_eq_some_iff.1 hi).1
  have h1 : decide ((i : Int) < 0) = false := by simp
  have h2 : decide (sts.length ≤ i) = false := by simp; omega
  have HD := h.below (Ch.of_below (fun _ => False) (doesStart_below w ⟨1, i, x, a1, a2⟩)) (fun _ _ => id)
  have hnews := Lib.hid (((HD.own.alloc (.cells #[] 36))).cells (g := g) rfl)
  have HR := Lib.hid HD
  have hown0 : ((doesStart w ⟨1, i, x, a1, a2⟩).alloc (.cells #[] 36)).ownsRow base 36 4 (.slice (some ⟨w.heap.size + 1 + 1 + 1, 0, none⟩) 0 0) 0 [] := by
    have := World.ownsRow_lit (e := 36) (size := 4) (base := base) (doesStart w ⟨1, i, x, a1, a2⟩) #[] 0 (by simp; omega) (by simp [maxLen]) (by simp)
    simpa using this
  have HO := Lib.hid hown0
  have hsz : ((doesStart w ⟨1, i, x, a1, a2⟩).alloc (.cells #[] 36)).heap.size = w.heap.size + 4 := by simp
  have HI := Lib.hid hi
  clear h hi hcell hfr HD hown0
  go_enter Try.func13, Try.ntmps13
  go_upto_region 4 with fail
  go_wp2_with (at_builtin; refine wpList_append_lies _ rfl (.tmp 21) (.tmp 22) 37 rfl base 36 i0 (.agg #[.int .i64 0, .int .i64 0, .int .i64 0, .int .i64 0]) 4 32 Try.underlying37 hinfo hz0 hz1 hz2 rfl (by decide) _ _ _ rfl HO.out ⟨g, 0, none⟩ sts.length cap (sts.flatMap Sn.out) rfl ?c0 hnews.out ?c2 ?c25 ?c3 ?c4 ?c5 (w.heap.size + 4) hsz ?_)
  case c0 => exact flat_len Sn.out_len sts
  case c2 => exact flat_one sts
  case c25 => omega
  case c3 => unfold maxLen; omega
  case c4 => omega
  case c5 => simp; omega
  intro g5 cap5 w5 hown5 hgrow hg5 hlt5
  (try simp only [Nat.zero_add, List.nil_append] at hown5)
  have hgo : ∀ k, some k = (Value.slice (some ⟨w.heap.size + 1 + 1 + 1, 0, none⟩) 0 0).ownBlock → k = w.heap.size + 3 := fun k e => by simpa [Value.ownBlock] using e
  have cg := (Ch.of_grown hgrow).mono (S' := (· = w.heap.size + 3)) hgo
  have hg5' : w.heap.size + 3 ≤ g5 := by
    rcases hg5 with h | h
    · have := hgo g5 h.symm; omega
    · omega
  have D5 := Lib.hid (show DoSt w (w5.alloc (.cells #[.int .i64 s.c, .int .i64 s.m, .int .i64 s.t, .int .i64 s.n] 36)) base g cap g5 cap5 w5.heap.size sts 1 i x a1 a2 0 0 0 s.c s.m s.t s.n from
    ⟨(((doesStart_box w ⟨1, i, x, a1, a2⟩).alloc (.cells #[] 36)).ch cg (by omega)).alloc _, (((doesStart_boxes w ⟨1, i, x, a1, a2⟩).1.alloc (.cells #[] 36)).ch cg (by omega)).alloc _,
     (((doesStart_boxes w ⟨1, i, x, a1, a2⟩).2.alloc (.cells #[] 36)).ch cg (by omega)).alloc _, Blk.new _ _ _, RefRow.alloc ⟨hown5⟩ _,
     ((HR.out.alloc (.cells #[] 36)).below cg (fun k hk e => by have e2 : g = k := (by simpa [Value.ownBlock] using hk); omega)).alloc _,
     (((Ch.of_below (fun _ => False) (doesStart_below w ⟨1, i, x, a1, a2⟩)).alloc (.cells #[] 36)).step cg (fun k hk e => by omega)).alloc _,
     hg5', by have := Nat.le_trans (Nat.le_of_eq hsz.symm) cg.size; omega, by have := (World.ownsRow.lt hown5 g5 rfl).2; omega, hg⟩)
  obtain ⟨qo, qr, rr, qa, ra, qs, rs, rg, l1, l2, l3, l4, l5⟩ := D5.out.cells
  obtain ⟨c0, c1, c2, c3⟩ := D5.out.at HI.out
  have hlw : g5 < w5.heap.size := hlt5
  have e0 : w5.cell? ⟨g5, i * 4, none⟩ = some (.int .i64 s.c) := by rw [← c0, World.cell?_alloc_past _ _ _ hlw]
  have e1 : w5.cell? ⟨g5, i * 4 + 1, none⟩ = some (.int .i64 s.m) := by rw [← c1, World.cell?_alloc_past _ _ _ hlw]
  have e2 : w5.cell? ⟨g5, i * 4 + 2, none⟩ = some (.int .i64 s.t) := by rw [← c2, World.cell?_alloc_past _ _ _ hlw]
  have e3 : w5.cell? ⟨g5, i * 4 + 3, none⟩ = some (.int .i64 s.n) := by rw [← c3, World.cell?_alloc_past _ _ _ hlw]
  have BO : Blk w5 w.heap.size #[.int .i64 1, .int .i64 i, .int .i64 x, .int .i64 a1, .int .i64 a2] 39 := ((doesStart_box w ⟨1, i, x, a1, a2⟩).alloc (.cells #[] 36)).ch cg (by omega)
  obtain ⟨po, po2⟩ := BO.cells
  have lo := BO.lt
  clear hg5 hgo cg hown5 hgrow HO hnews hsz BO c0 c1 c2 c3 HR
  go_upto_region 6 with fail
  generalize hw6 : w5.alloc (.cells #[.int .i64 s.c, .int .i64 s.m, .int .i64 s.t, .int .i64 s.n] 36) = w6 at D5 ⊢
  generalize hsb : w5.heap.size = sb at D5 ⊢
  have HG1 := D5.out.hg
  have HG2 := D5.out.hs
  have HG3 := D5.out.hgs
  have n1 : ¬ sb = w.heap.size + 1 := by omega
  have n2 : ¬ sb = w.heap.size + 1 + 1 := by omega
  have n3 : ¬ g5 = w.heap.size + 1 := by omega
  have n4 : ¬ g5 = w.heap.size + 1 + 1 := by omega
  have n5 : ¬ w.heap.size + 1 = sb := by omega
  have n6 : ¬ w.heap.size + 1 + 1 = sb := by omega
  have n7 : ¬ w.heap.size + 1 = g5 := by omega
  have n8 : ¬ w.heap.size + 1 + 1 = g5 := by omega
  have n9 : ¬ sb = g5 := by omega
  clear hw6 hsb qo qr rr qa ra qs rs rg l1 l2 l3 l4 l5 e0 e1 e2 e3 po po2 lo hlw hlt5 hg5' w5
  obtain ⟨qo, qr, rr, qa, ra, qs, rs, rg, l1, l2, l3, l4, l5⟩ := D5.out.cells
  obtain ⟨e0, e1, e2, e3⟩ := D5.out.at HI.out
  go_wp2_with fail
  refine (refRight_any a1 a2 _).mono ?_
  rintro e w' ⟨rfl, hb⟩
  have D6 := Lib.hid (D5.out.below hb)
  clear qo qr rr qa ra qs rs rg l1 l2 l3 l4 l5 e0 e1 e2 e3
  clear hb D5
  obtain ⟨qo, qr, rr, qa, ra, qs, rs, rg, l1, l2, l3, l4, l5⟩ := D6.out.cells
  obtain ⟨e0, e1, e2, e3⟩ := D6.out.at HI.out
  rw [HX.out]
  have KR5 := Lib.hid D6.out.row
  have C6 := D6.out.ch
  clear D6
  go_wp2_with fail
  go_region
  all_goals
    go_wp2
    refine bodyPost_ret (v := .tuple #[.slice (some ⟨g5, 0, none⟩) sts.length cap5, .agg #[.int .i64 1, .int .i64 0, .int .i64 0]]) (by simp [results, Try.results13, go_sem, qr, qa, l1, l2, l3, l4, l5, n3, n7]) rfl ⟨_, rfl, ?_, ?_⟩
    · (repeat (first | with_reducible exact KR5.out | with_reducible refine RefRow.drew ?_ | with_reducible refine RefRow.alloc ?_ _ | with_reducible refine RefRow.set' hlt ?_ | (with_reducible refine RefRow.far ?_ ?_; focus (first | omega | (simp; omega)))))
    · refine Ch.below ?_
      (repeat (first | with_reducible assumption | with_reducible exact Ch.refl _ _ | with_reducible refine Ch.drew ?_ | with_reducible refine Ch.alloc ?_ _ | (with_reducible refine Ch.set' ?_ ?_; focus (first | (right; rfl; done) | (left; simp; done) | (left; simp; omega) | (left; omega) | (right; simp; done) | (right; simp; omega)))))

set_option maxHeartbeats 2000000 in
set_option maxRecDepth 100000 in
theorem do_read_wait (base : Nat) (v : Value) (sts : List Sn) (i : Nat) (s : Sn) (x a1 a2 : Int) (w : World) (h : RefRow w base v sts) (hi : sts[i]? = some s) (hl : sts.length ≤ 1000) (hbase : base ≤ w.heap.size) (hr : rightB a1 a2 = true) (hy : lessB a1 a2 s.t s.n = true) :
    Calls Try.prog 13 #[v, .agg #[.int .i64 0, .int .i64 i, .int .i64 x, .int .i64 a1, .int .i64 a2]] w (DoPost base (sts.set i ⟨s.c, s.m, s.t, s.n⟩, ⟨180, 0, 0⟩) w) := by
  obtain ⟨i0, hinfo, hz0, hz1, hz2⟩ := info_parts infoSn
  have HX := Lib.hid hr; clear hr
  have HY := Lib.hid hy; clear hy
  obtain ⟨g, cap, rfl, hg, hbg, hcell, hfr⟩ := h.at hi
  have hlt := (List.getElem?_eq_some_iff.1 hi).1
  have h1 : decide ((i : Int) < 0) = false := by simp
  have h2 : decide (sts.length ≤ i) = false := by simp; omega
  have HD := h.below (Ch.of_below (fun _ => False) (doesStart_below w ⟨0, i, x, a1, a2⟩)) (fun _ _ => id)
  have hnews := Lib.hid (((HD.own.alloc (.cells #[] 36))).cells (g := g) rfl)
  have HR := Lib.hid HD
  have hown0 : ((doesStart w ⟨0, i, x, a1, a2⟩).alloc (.cells #[] 36)).ownsRow base 36 4 (.slice (some ⟨w.heap.size + 1 + 1 + 1, 0, none⟩) 0 0) 0 [] := by
    have := World.ownsRow_lit (e := 36) (size := 4) (base := base) (doesStart w ⟨0, i, x, a1, a2⟩) #[] 0 (by simp; omega) (by simp [maxLen]) (by simp)
    simpa using this
  have HO := Lib.hid hown0
  have hsz : ((doesStart w ⟨0, i, x, a1, a2⟩).alloc (.cells #[] 36)).heap.size = w.heap.size + 4 := by simp
  have HI := Lib.hid hi
  clear h hi hcell hfr HD hown0
  go_enter Try.func13, Try.ntmps13
  go_upto_region 4 with fail
  go_wp2_with (at_builtin; refine wpList_append_lies _ rfl (.tmp 21) (.tmp 22) 37 rfl base 36 i0 (.agg #[.int .i64 0, .int .i64 0, .int .i64 0, .int .i64 0]) 4 32 Try.underlying37 hinfo hz0 hz1 hz2 rfl (by decide) _ _ _ rfl HO.out ⟨g, 0, none⟩ sts.length cap (sts.flatMap Sn.out) rfl ?c0 hnews.out ?c2 ?c25 ?c3 ?c4 ?c5 (w.heap.size + 4) hsz ?_)
  case c0 => exact flat_len Sn.out_len sts
  case c2 => exact flat_one sts
  case c25 => omega
  case c3 => unfold maxLen; omega
  case c4 => omega
  case c5 => simp; omega
  intro g5 cap5 w5 hown5 hgrow hg5 hlt5
  (try simp only [Nat.zero_add, List.nil_append] at hown5)
  have hgo : ∀ k, some k = (Value.slice (some ⟨w.heap.size + 1 + 1 + 1, 0, none⟩) 0 0).ownBlock → k = w.heap.size + 3 := fun k e => by simpa [Value.ownBlock] using e
  have cg := (Ch.of_grown hgrow).mono (S' := (· = w.heap.size + 3)) hgo
  have hg5' : w.heap.size + 3 ≤ g5 := by
    rcases hg5 with h | h
    · have := hgo g5 h.symm; omega
    · omega
  have D5 := Lib.hid (show DoSt w (w5.alloc (.cells #[.int .i64 s.c, .int .i64 s.m, .int .i64 s.t, .int .i64 s.n] 36)) base g cap g5 cap5 w5.heap.size sts 0 i x a1 a2 0 0 0 s.c s.m s.t s.n from
    ⟨(((doesStart_box w ⟨0, i, x, a1, a2⟩).alloc (.cells #[] 36)).ch cg (by omega)).alloc _, (((doesStart_boxes w ⟨0, i, x, a1, a2⟩).1.alloc (.cells #[] 36)).ch cg (by omega)).alloc _,
     (((doesStart_boxes w ⟨0, i, x, a1, a2⟩).2.alloc (.cells #[] 36)).ch cg (by omega)).alloc _, Blk.new _ _ _, RefRow.alloc ⟨hown5⟩ _,
     ((HR.out.alloc (.cells #[] 36)).below cg (fun k hk e => by have e2 : g = k := (by simpa [Value.ownBlock] using hk); omega)).alloc _,
     (((Ch.of_below (fun _ => False) (doesStart_below w ⟨0, i, x, a1, a2⟩)).alloc (.cells #[] 36)).step cg (fun k hk e => by omega)).alloc _,
     hg5', by have := Nat.le_trans (Nat.le_of_eq hsz.symm) cg.size; omega, by have := (World.ownsRow.lt hown5 g5 rfl).2; omega, hg⟩)
  obtain ⟨qo, qr, rr, qa, ra, qs, rs, rg, l1, l2, l3, l4, l5⟩ := D5.out.cells
  obtain ⟨c0, c1, c2, c3⟩ := D5.out.at HI.out
  have hlw : g5 < w5.heap.size := hlt5
  have e0 : w5.cell? ⟨g5, i * 4, none⟩ = some (.int .i64 s.c) := by rw [← c0, World.cell?_alloc_past _ _ _ hlw]
  have e1 : w5.cell? ⟨g5, i * 4 + 1, none⟩ = some (.int .i64 s.m) := by rw [← c1, World.cell?_alloc_past _ _ _ hlw]
  have e2 : w5.cell? ⟨g5, i * 4 + 2, none⟩ = some (.int .i64 s.t) := by rw [← c2, World.cell?_alloc_past _ _ _ hlw]
  have e3 : w5.cell? ⟨g5, i * 4 + 3, none⟩ = some (.int .i64 s.n) := by rw [← c3, World.cell?_alloc_past _ _ _ hlw]
  have BO : Blk w5 w.heap.size #[.int .i64 0, .int .i64 i, .int .i64 x, .int .i64 a1, .int .i64 a2] 39 := ((doesStart_box w ⟨0, i, x, a1, a2⟩).alloc (.cells #[] 36)).ch cg (by omega)
  obtain ⟨po, po2⟩ := BO.cells
  have lo := BO.lt
  clear hg5 hgo cg hown5 hgrow HO hnews hsz BO c0 c1 c2 c3 HR
  go_upto_region 6 with fail
  generalize hw6 : w5.alloc (.cells #[.int .i64 s.c, .int .i64 s.m, .int .i64 s.t, .int .i64 s.n] 36) = w6 at D5 ⊢
  generalize hsb : w5.heap.size = sb at D5 ⊢
  have HG1 := D5.out.hg
  have HG2 := D5.out.hs
  have HG3 := D5.out.hgs
  have n1 : ¬ sb = w.heap.size + 1 := by omega
  have n2 : ¬ sb = w.heap.size + 1 + 1 := by omega
  have n3 : ¬ g5 = w.heap.size + 1 := by omega
  have n4 : ¬ g5 = w.heap.size + 1 + 1 := by omega
  have n5 : ¬ w.heap.size + 1 = sb := by omega
  have n6 : ¬ w.heap.size + 1 + 1 = sb := by omega
  have n7 : ¬ w.heap.size + 1 = g5 := by omega
  have n8 : ¬ w.heap.size + 1 + 1 = g5 := by omega
  have n9 : ¬ sb = g5 := by omega
  clear hw6 hsb qo qr rr qa ra qs rs rg l1 l2 l3 l4 l5 e0 e1 e2 e3 po po2 lo hlw hlt5 hg5' w5
  obtain ⟨qo, qr, rr, qa, ra, qs, rs, rg, l1, l2, l3, l4, l5⟩ := D5.out.cells
  obtain ⟨e0, e1, e2, e3⟩ := D5.out.at HI.out
  go_wp2_with fail
  refine (refRight_any a1 a2 _).mono ?_
  rintro e w' ⟨rfl, hb⟩
  have D6 := Lib.hid (D5.out.below hb)
  clear qo qr rr qa ra qs rs rg l1 l2 l3 l4 l5 e0 e1 e2 e3
  clear hb D5
  obtain ⟨qo, qr, rr, qa, ra, qs, rs, rg, l1, l2, l3, l4, l5⟩ := D6.out.cells
  obtain ⟨e0, e1, e2, e3⟩ := D6.out.at HI.out
  rw [HX.out]
  go_wp2_with fail
  refine (refLess_any a1 a2 s.t s.n _).mono ?_
  rintro e w' ⟨rfl, hb⟩
  have D7 := Lib.hid (D6.out.below hb)
  clear qo qr rr qa ra qs rs rg l1 l2 l3 l4 l5 e0 e1 e2 e3
  clear hb D6
  obtain ⟨qo, qr, rr, qa, ra, qs, rs, rg, l1, l2, l3, l4, l5⟩ := D7.out.cells
  obtain ⟨e0, e1, e2, e3⟩ := D7.out.at HI.out
  rw [HY.out]
  have KR5 := Lib.hid D7.out.row
  have C6 := D7.out.ch
  clear D7
  go_wp2_with fail
  go_region
  all_goals
    go_wp2
    refine bodyPost_ret (v := .tuple #[.slice (some ⟨g5, 0, none⟩) sts.length cap5, .agg #[.int .i64 180, .int .i64 0, .int .i64 0]]) (by simp [results, Try.results13, go_sem, qr, qa, l1, l2, l3, l4, l5, n3, n7]) rfl ⟨_, rfl, ?_, ?_⟩
    · (repeat (first | with_reducible exact KR5.out | with_reducible refine RefRow.drew ?_ | with_reducible refine RefRow.alloc ?_ _ | with_reducible refine RefRow.set' hlt ?_ | (with_reducible refine RefRow.far ?_ ?_; focus (first | omega | (simp; omega)))))
    · refine Ch.below ?_
      (repeat (first | with_reducible assumption | with_reducible exact Ch.refl _ _ | with_reducible refine Ch.drew ?_ | with_reducible refine Ch.alloc ?_ _ | (with_reducible refine Ch.set' ?_ ?_; focus (first | (right; rfl; done) | (left; simp; done) | (left; simp; omega) | (left; omega) | (right; simp; done) | (right; simp; omega)))))

set_option maxHeartbeats 2000000 in
set_option maxRecDepth 100000 in
theorem do_read_ok (base : Nat) (v : Value) (sts : List Sn) (i : Nat) (s : Sn) (x a1 a2 : Int) (w : World) (h : RefRow w base v sts) (hi : sts[i]? = some s) (hl : sts.length ≤ 1000) (hbase : base ≤ w.heap.size) (hr : rightB a1 a2 = true) (hy : lessB a1 a2 s.t s.n = false) :
    Calls Try.prog 13 #[v, .agg #[.int .i64 0, .int .i64 i, .int .i64 x, .int .i64 a1, .int .i64 a2]] w (DoPost base (sts.set i ⟨s.c, s.m, maxT s.t s.n a1 a2, maxN s.t s.n a1 a2⟩, ⟨0, 0, 0⟩) w) := by
  obtain ⟨i0, hinfo, hz0, hz1, hz2⟩ := info_parts infoSn
  have HX := Lib.hid hr; clear hr
  have HY := Lib.hid hy; clear hy
  obtain ⟨g, cap, rfl, hg, hbg, hcell, hfr⟩ := h.at hi
  have hlt := (List.getElem?_eq_some_iff.1 hi).1
  have h1 : decide ((i : Int) < 0) = false := by simp
  have h2 : decide (sts.length ≤ i) = false := by simp; omega
  have HD := h.below (Ch.of_below (fun _ => False) (doesStart_below w ⟨0, i, x, a1, a2⟩)) (fun _ _ => id)
  have hnews := Lib.hid (((HD.own.alloc (.cells #[] 36))).cells (g := g) rfl)
  have HR := Lib.hid HD
  have hown0 : ((doesStart w ⟨0, i, x, a1, a2⟩).alloc (.cells #[] 36)).ownsRow base 36 4 (.slice (some ⟨w.heap.size + 1 + 1 + 1, 0, none⟩) 0 0) 0 [] := by
    have := World.ownsRow_lit (e := 36) (size := 4) (base := base) (doesStart w ⟨0, i, x, a1, a2⟩) #[] 0 (by simp; omega) (by simp [maxLen]) (by simp)
    simpa using this
  have HO := Lib.hid hown0
  have hsz : ((doesStart w ⟨0, i, x, a1, a2⟩).alloc (.cells #[] 36)).heap.size = w.heap.size + 4 := by simp
  have HI := Lib.hid hi
  clear h hi hcell hfr HD hown0
  go_enter Try.func13, Try.ntmps13
  go_upto_region 4 with fail
  go_wp2_with (at_builtin; refine wpList_append_lies _ rfl (.tmp 21) (.tmp 22) 37 rfl base 36 i0 (.agg #[.int .i64 0, .int .i64 0, .int .i64 0, .int .i64 0]) 4 32 Try.underlying37 hinfo hz0 hz1 hz2 rfl (by decide) _ _ _ rfl HO.out ⟨g, 0, none⟩ sts.length cap (sts.flatMap Sn.out) rfl ?c0 hnews.out ?c2 ?c25 ?c3 ?c4 ?c5 (w.heap.size + 4) hsz ?_)
  case c0 => exact flat_len Sn.out_len sts
  case c2 => exact flat_one sts
  case c25 => omega
  case c3 => unfold maxLen; omega
  case c4 => omega
  case c5 => simp; omega
  intro g5 cap5 w5 hown5 hgrow hg5 hlt5
  (try simp only [Nat.zero_add, List.nil_append] at hown5)
  have hgo : ∀ k, some k = (Value.slice (some ⟨w.heap.size + 1 + 1 + 1, 0, none⟩) 0 0).ownBlock → k = w.heap.size + 3 := fun k e => by simpa [Value.ownBlock] using e
  have cg := (Ch.of_grown hgrow).mono (S' := (· = w.heap.size + 3)) hgo
  have hg5' : w.heap.size + 3 ≤ g5 := by
    rcases hg5 with h | h
    · have := hgo g5 h.symm; omega
    · omega
  have D5 := Lib.hid (show DoSt w (w5.alloc (.cells #[.int .i64 s.c, .int .i64 s.m, .int .i64 s.t, .int .i64 s.n] 36)) base g cap g5 cap5 w5.heap.size sts 0 i x a1 a2 0 0 0 s.c s.m s.t s.n from
    ⟨(((doesStart_box w ⟨0, i, x, a1, a2⟩).alloc (.cells #[] 36)).ch cg (by omega)).alloc _, (((doesStart_boxes w ⟨0, i, x, a1, a2⟩).1.alloc (.cells #[] 36)).ch cg (by omega)).alloc _,
     (((doesStart_boxes w ⟨0, i, x, a1, a2⟩).2.alloc (.cells #[] 36)).ch cg (by omega)).alloc _, Blk.new _ _ _, RefRow.alloc ⟨hown5⟩ _,
     ((HR.out.alloc (.cells #[] 36)).below cg (fun k hk e => by have e2 : g = k := (by simpa [Value.ownBlock] using hk); omega)).alloc _,
     (((Ch.of_below (fun _ => False) (doesStart_below w ⟨0, i, x, a1, a2⟩)).alloc (.cells #[] 36)).step cg (fun k hk e => by omega)).alloc _,
     hg5', by have := Nat.le_trans (Nat.le_of_eq hsz.symm) cg.size; omega, by have := (World.ownsRow.lt hown5 g5 rfl).2; omega, hg⟩)
  obtain ⟨qo, qr, rr, qa, ra, qs, rs, rg, l1, l2, l3, l4, l5⟩ := D5.out.cells
  obtain ⟨c0, c1, c2, c3⟩ := D5.out.at HI.out
  have hlw : g5 < w5.heap.size := hlt5
  have e0 : w5.cell? ⟨g5, i * 4, none⟩ = some (.int .i64 s.c) := by rw [← c0, World.cell?_alloc_past _ _ _ hlw]
  have e1 : w5.cell? ⟨g5, i * 4 + 1, none⟩ = some (.int .i64 s.m) := by rw [← c1, World.cell?_alloc_past _ _ _ hlw]
  have e2 : w5.cell? ⟨g5, i * 4 + 2, none⟩ = some (.int .i64 s.t) := by rw [← c2, World.cell?_alloc_past _ _ _ hlw]
  have e3 : w5.cell? ⟨g5, i * 4 + 3, none⟩ = some (.int .i64 s.n) := by rw [← c3, World.cell?_alloc_past _ _ _ hlw]
  have BO : Blk w5 w.heap.size #[.int .i64 0, .int .i64 i, .int .i64 x, .int .i64 a1, .int .i64 a2] 39 := ((doesStart_box w ⟨0, i, x, a1, a2⟩).alloc (.cells #[] 36)).ch cg (by omega)
  obtain ⟨po, po2⟩ := BO.cells
  have lo := BO.lt
  clear hg5 hgo cg hown5 hgrow HO hnews hsz BO c0 c1 c2 c3 HR
  go_upto_region 6 with fail
  generalize hw6 : w5.alloc (.cells #[.int .i64 s.c, .int .i64 s.m, .int .i64 s.t, .int .i64 s.n] 36) = w6 at D5 ⊢
  generalize hsb : w5.heap.size = sb at D5 ⊢
  have HG1 := D5.out.hg
  have HG2 := D5.out.hs
  have HG3 := D5.out.hgs
  have n1 : ¬ sb = w.heap.size + 1 := by omega
  have n2 : ¬ sb = w.heap.size + 1 + 1 := by omega
  have n3 : ¬ g5 = w.heap.size + 1 := by omega
  have n4 : ¬ g5 = w.heap.size + 1 + 1 := by omega
  have n5 : ¬ w.heap.size + 1 = sb := by omega
  have n6 : ¬ w.heap.size + 1 + 1 = sb := by omega
  have n7 : ¬ w.heap.size + 1 = g5 := by omega
  have n8 : ¬ w.heap.size + 1 + 1 = g5 := by omega
  have n9 : ¬ sb = g5 := by omega
  clear hw6 hsb qo qr rr qa ra qs rs rg l1 l2 l3 l4 l5 e0 e1 e2 e3 po po2 lo hlw hlt5 hg5' w5
  obtain ⟨qo, qr, rr, qa, ra, qs, rs, rg, l1, l2, l3, l4, l5⟩ := D5.out.cells
  obtain ⟨e0, e1, e2, e3⟩ := D5.out.at HI.out
  go_wp2_with fail
  refine (refRight_any a1 a2 _).mono ?_
  rintro e w' ⟨rfl, hb⟩
  have D6 := Lib.hid (D5.out.below hb)
  clear qo qr rr qa ra qs rs rg l1 l2 l3 l4 l5 e0 e1 e2 e3
  clear hb D5
  obtain ⟨qo, qr, rr, qa, ra, qs, rs, rg, l1, l2, l3, l4, l5⟩ := D6.out.cells
  obtain ⟨e0, e1, e2, e3⟩ := D6.out.at HI.out
  rw [HX.out]
  go_wp2_with fail
  refine (refLess_any a1 a2 s.t s.n _).mono ?_
  rintro e w' ⟨rfl, hb⟩
  have D7 := Lib.hid (D6.out.below hb)
  clear qo qr rr qa ra qs rs rg l1 l2 l3 l4 l5 e0 e1 e2 e3
  clear hb D6
  obtain ⟨qo, qr, rr, qa, ra, qs, rs, rg, l1, l2, l3, l4, l5⟩ := D7.out.cells
  obtain ⟨e0, e1, e2, e3⟩ := D7.out.at HI.out
  rw [HY.out]
  go_wp2_with fail
  refine (refMax_any s.t s.n a1 a2 _).mono ?_
  rintro e w' ⟨rfl, hb⟩
  have D8 := Lib.hid (D7.out.below hb)
  clear qo qr rr qa ra qs rs rg l1 l2 l3 l4 l5 e0 e1 e2 e3
  clear hb D7
  obtain ⟨qo, qr, rr, qa, ra, qs, rs, rg, l1, l2, l3, l4, l5⟩ := D8.out.cells
  obtain ⟨e0, e1, e2, e3⟩ := D8.out.at HI.out
  have KR5 := Lib.hid D8.out.row
  have C6 := D8.out.ch
  clear D8
  go_wp2_with fail
  go_region
  all_goals
    go_wp2
    refine bodyPost_ret (v := .tuple #[.slice (some ⟨g5, 0, none⟩) sts.length cap5, .agg #[.int .i64 0, .int .i64 0, .int .i64 0]]) (by simp [results, Try.results13, go_sem, qr, qa, l1, l2, l3, l4, l5, n3, n7]) rfl ⟨_, rfl, ?_, ?_⟩
    · (repeat (first | with_reducible exact KR5.out | with_reducible refine RefRow.drew ?_ | with_reducible refine RefRow.alloc ?_ _ | with_reducible refine RefRow.set' hlt ?_ | (with_reducible refine RefRow.far ?_ ?_; focus (first | omega | (simp; omega)))))
    · refine Ch.below ?_
      (repeat (first | with_reducible assumption | with_reducible exact Ch.refl _ _ | with_reducible refine Ch.drew ?_ | with_reducible refine Ch.alloc ?_ _ | (with_reducible refine Ch.set' ?_ ?_; focus (first | (right; rfl; done) | (left; simp; done) | (left; simp; omega) | (left; omega) | (right; simp; done) | (right; simp; omega)))))

set_option maxHeartbeats 2000000 in
set_option maxRecDepth 100000 in
theorem do_wrote_ok (base : Nat) (v : Value) (sts : List Sn) (i : Nat) (s : Sn) (x a1 a2 : Int) (w : World) (h : RefRow w base v sts) (hi : sts[i]? = some s) (hl : sts.length ≤ 1000) (hbase : base ≤ w.heap.size) (hr : rightB a1 a2 = true) :
    Calls Try.prog 13 #[v, .agg #[.int .i64 1, .int .i64 i, .int .i64 x, .int .i64 a1, .int .i64 a2]] w (DoPost base (sts.set i ⟨s.c, s.m, maxT s.t s.n a1 a2, maxN s.t s.n a1 a2⟩, ⟨0, 0, 0⟩) w) := by
  obtain ⟨i0, hinfo, hz0, hz1, hz2⟩ := info_parts infoSn
  have HX := Lib.hid hr; clear hr
  obtain ⟨g, cap, rfl, hg, hbg, hcell, hfr⟩ := h.at hi
  have hlt := (List.getElem?_eq_some_iff.1 hi).1
  have h1 : decide ((i : Int) < 0) = false := by simp
  have h2 : decide (sts.length ≤ i) = false := by simp; omega
  have HD := h.below (Ch.of_below (fun _ => False) (doesStart_below w ⟨1, i, x, a1, a2⟩)) (fun _ _ => id)
  have hnews := Lib.hid (((HD.own.alloc (.cells #[] 36))).cells (g := g) rfl)
  have HR := Lib.hid HD
  have hown0 : ((doesStart w ⟨1, i, x, a1, a2⟩).alloc (.cells #[] 36)).ownsRow base 36 4 (.slice (some ⟨w.heap.size + 1 + 1 + 1, 0, none⟩) 0 0) 0 [] := by
    have := World.ownsRow_lit (e := 36) (size := 4) (base := base) (doesStart w ⟨1, i, x, a1, a2⟩) #[] 0 (by simp; omega) (by simp [maxLen]) (by simp)
    simpa using this
  have HO := Lib.hid hown0
  have hsz : ((doesStart w ⟨1, i, x, a1, a2⟩).alloc (.cells #[] 36)).heap.size = w.heap.size + 4 := by simp
  have HI := Lib.hid hi
  clear h hi hcell hfr HD hown0
  go_enter Try.func13, Try.ntmps13
  go_upto_region 4 with fail
  go_wp2_with (at_builtin; refine wpList_append_lies _ rfl (.tmp 21) (.tmp 22) 37 rfl base 36 i0 (.agg #[.int .i64 0, .int .i64 0, .int .i64 0, .int .i64 0]) 4 32 Try.underlying37 hinfo hz0 hz1 hz2 rfl (by decide) _ _ _ rfl HO.out ⟨g, 0, none⟩ sts.length cap (sts.flatMap Sn.out) rfl ?c0 hnews.out ?c2 ?c25 ?c3 ?c4 ?c5 (w.heap.size + 4) hsz ?_)
  case c0 => exact flat_len Sn.out_len sts
  case c2 => exact flat_one sts
  case c25 => omega
  case c3 => unfold maxLen; omega
  case c4 => omega
  case c5 => simp; omega
  intro g5 cap5 w5 hown5 hgrow hg5 hlt5
  (try simp only [Nat.zero_add, List.nil_append] at hown5)
  have hgo : ∀ k, some k = (Value.slice (some ⟨w.heap.size + 1 + 1 + 1, 0, none⟩) 0 0).ownBlock → k = w.heap.size + 3 := fun k e => by simpa [Value.ownBlock] using e
  have cg := (Ch.of_grown hgrow).mono (S' := (· = w.heap.size + 3)) hgo
  have hg5' : w.heap.size + 3 ≤ g5 := by
    rcases hg5 with h | h
    · have := hgo g5 h.symm; omega
    · omega
  have D5 := Lib.hid (show DoSt w (w5.alloc (.cells #[.int .i64 s.c, .int .i64 s.m, .int .i64 s.t, .int .i64 s.n] 36)) base g cap g5 cap5 w5.heap.size sts 1 i x a1 a2 0 0 0 s.c s.m s.t s.n from
    ⟨(((doesStart_box w ⟨1, i, x, a1, a2⟩).alloc (.cells #[] 36)).ch cg (by omega)).alloc _, (((doesStart_boxes w ⟨1, i, x, a1, a2⟩).1.alloc (.cells #[] 36)).ch cg (by omega)).alloc _,
     (((doesStart_boxes w ⟨1, i, x, a1, a2⟩).2.alloc (.cells #[] 36)).ch cg (by omega)).alloc _, Blk.new _ _ _, RefRow.alloc ⟨hown5⟩ _,
     ((HR.out.alloc (.cells #[] 36)).below cg (fun k hk e => by have e2 : g = k := (by simpa [Value.ownBlock] using hk); omega)).alloc _,
     (((Ch.of_below (fun _ => False) (doesStart_below w ⟨1, i, x, a1, a2⟩)).alloc (.cells #[] 36)).step cg (fun k hk e => by omega)).alloc _,
     hg5', by have := Nat.le_trans (Nat.le_of_eq hsz.symm) cg.size; omega, by have := (World.ownsRow.lt hown5 g5 rfl).2; omega, hg⟩)
  obtain ⟨qo, qr, rr, qa, ra, qs, rs, rg, l1, l2, l3, l4, l5⟩ := D5.out.cells
  obtain ⟨c0, c1, c2, c3⟩ := D5.out.at HI.out
  have hlw : g5 < w5.heap.size := hlt5
  have e0 : w5.cell? ⟨g5, i * 4, none⟩ = some (.int .i64 s.c) := by rw [← c0, World.cell?_alloc_past _ _ _ hlw]
  have e1 : w5.cell? ⟨g5, i * 4 + 1, none⟩ = some (.int .i64 s.m) := by rw [← c1, World.cell?_alloc_past _ _ _ hlw]
  have e2 : w5.cell? ⟨g5, i * 4 + 2, none⟩ = some (.int .i64 s.t) := by rw [← c2, World.cell?_alloc_past _ _ _ hlw]
  have e3 : w5.cell? ⟨g5, i * 4 + 3, none⟩ = some (.int .i64 s.n) := by rw [← c3, World.cell?_alloc_past _ _ _ hlw]
  have BO : Blk w5 w.heap.size #[.int .i64 1, .int .i64 i, .int .i64 x, .int .i64 a1, .int .i64 a2] 39 := ((doesStart_box w ⟨1, i, x, a1, a2⟩).alloc (.cells #[] 36)).ch cg (by omega)
  obtain ⟨po, po2⟩ := BO.cells
  have lo := BO.lt
  clear hg5 hgo cg hown5 hgrow HO hnews hsz BO c0 c1 c2 c3 HR
  go_upto_region 6 with fail
  generalize hw6 : w5.alloc (.cells #[.int .i64 s.c, .int .i64 s.m, .int .i64 s.t, .int .i64 s.n] 36) = w6 at D5 ⊢
  generalize hsb : w5.heap.size = sb at D5 ⊢
  have HG1 := D5.out.hg
  have HG2 := D5.out.hs
  have HG3 := D5.out.hgs
  have n1 : ¬ sb = w.heap.size + 1 := by omega
  have n2 : ¬ sb = w.heap.size + 1 + 1 := by omega
  have n3 : ¬ g5 = w.heap.size + 1 := by omega
  have n4 : ¬ g5 = w.heap.size + 1 + 1 := by omega
  have n5 : ¬ w.heap.size + 1 = sb := by omega
  have n6 : ¬ w.heap.size + 1 + 1 = sb := by omega
  have n7 : ¬ w.heap.size + 1 = g5 := by omega
  have n8 : ¬ w.heap.size + 1 + 1 = g5 := by omega
  have n9 : ¬ sb = g5 := by omega
  clear hw6 hsb qo qr rr qa ra qs rs rg l1 l2 l3 l4 l5 e0 e1 e2 e3 po po2 lo hlw hlt5 hg5' w5
  obtain ⟨qo, qr, rr, qa, ra, qs, rs, rg, l1, l2, l3, l4, l5⟩ := D5.out.cells
  obtain ⟨e0, e1, e2, e3⟩ := D5.out.at HI.out
  go_wp2_with fail
  refine (refRight_any a1 a2 _).mono ?_
  rintro e w' ⟨rfl, hb⟩
  have D6 := Lib.hid (D5.out.below hb)
  clear qo qr rr qa ra qs rs rg l1 l2 l3 l4 l5 e0 e1 e2 e3
  clear hb D5
  obtain ⟨qo, qr, rr, qa, ra, qs, rs, rg, l1, l2, l3, l4, l5⟩ := D6.out.cells
  obtain ⟨e0, e1, e2, e3⟩ := D6.out.at HI.out
  rw [HX.out]
  go_wp2_with fail
  refine (refMax_any s.t s.n a1 a2 _).mono ?_
  rintro e w' ⟨rfl, hb⟩
  have D8 := Lib.hid (D6.out.below hb)
  clear qo qr rr qa ra qs rs rg l1 l2 l3 l4 l5 e0 e1 e2 e3
  clear hb D6
  obtain ⟨qo, qr, rr, qa, ra, qs, rs, rg, l1, l2, l3, l4, l5⟩ := D8.out.cells
  obtain ⟨e0, e1, e2, e3⟩ := D8.out.at HI.out
  have KR5 := Lib.hid D8.out.row
  have C6 := D8.out.ch
  clear D8
  go_wp2_with fail
  go_region
  all_goals
    go_wp2
    refine bodyPost_ret (v := .tuple #[.slice (some ⟨g5, 0, none⟩) sts.length cap5, .agg #[.int .i64 0, .int .i64 0, .int .i64 0]]) (by simp [results, Try.results13, go_sem, qr, qa, l1, l2, l3, l4, l5, n3, n7]) rfl ⟨_, rfl, ?_, ?_⟩
    · (repeat (first | with_reducible exact KR5.out | with_reducible refine RefRow.drew ?_ | with_reducible refine RefRow.alloc ?_ _ | with_reducible refine RefRow.set' hlt ?_ | (with_reducible refine RefRow.far ?_ ?_; focus (first | omega | (simp; omega)))))
    · refine Ch.below ?_
      (repeat (first | with_reducible assumption | with_reducible exact Ch.refl _ _ | with_reducible refine Ch.drew ?_ | with_reducible refine Ch.alloc ?_ _ | (with_reducible refine Ch.set' ?_ ?_; focus (first | (right; rfl; done) | (left; simp; done) | (left; simp; omega) | (left; omega) | (right; simp; done) | (right; simp; omega)))))

set_option maxHeartbeats 2000000 in
set_option maxRecDepth 100000 in
theorem do_join_neg (base : Nat) (v : Value) (sts : List Sn) (i : Nat) (s : Sn) (x a1 a2 : Int) (w : World) (h : RefRow w base v sts) (hi : sts[i]? = some s) (hl : sts.length ≤ 1000) (hbase : base ≤ w.heap.size) (hx : x < 0) :
    Calls Try.prog 13 #[v, .agg #[.int .i64 4, .int .i64 i, .int .i64 x, .int .i64 a1, .int .i64 a2]] w (DoPost base (sts.set i ⟨s.c, s.m, s.t, s.n⟩, ⟨0, 0, 0⟩) w) := by
  obtain ⟨i0, hinfo, hz0, hz1, hz2⟩ := info_parts infoSn
  have hj1 : decide ((0 : Int) ≤ x) = false := by simpa using hx
  clear hx
  obtain ⟨g, cap, rfl, hg, hbg, hcell, hfr⟩ := h.at hi
  have hlt := (List.getElem?_eq_some_iff.1 hi).1
  have h1 : decide ((i : Int) < 0) = false := by simp
  have h2 : decide (sts.length ≤ i) = false := by simp; omega
  have HD := h.below (Ch.of_below (fun _ => False) (doesStart_below w ⟨4, i, x, a1, a2⟩)) (fun _ _ => id)
  have hnews := Lib.hid (((HD.own.alloc (.cells #[] 36))).cells (g := g) rfl)
  have HR := Lib.hid HD
  have hown0 : ((doesStart w ⟨4, i, x, a1, a2⟩).alloc (.cells #[] 36)).ownsRow base 36 4 (.slice (some ⟨w.heap.size + 1 + 1 + 1, 0, none⟩) 0 0) 0 [] := by
    have := World.ownsRow_lit (e := 36) (size := 4) (base := base) (doesStart w ⟨4, i, x, a1, a2⟩) #[] 0 (by simp; omega) (by simp [maxLen]) (by simp)
    simpa using this
  have HO := Lib.hid hown0
  have hsz : ((doesStart w ⟨4, i, x, a1, a2⟩).alloc (.cells #[] 36)).heap.size = w.heap.size + 4 := by simp
  have HI := Lib.hid hi
  clear h hi hcell hfr HD hown0
  go_enter Try.func13, Try.ntmps13
  go_upto_region 4 with fail
  go_wp2_with (at_builtin; refine wpList_append_lies _ rfl (.tmp 21) (.tmp 22) 37 rfl base 36 i0 (.agg #[.int .i64 0, .int .i64 0, .int .i64 0, .int .i64 0]) 4 32 Try.underlying37 hinfo hz0 hz1 hz2 rfl (by decide) _ _ _ rfl HO.out ⟨g, 0, none⟩ sts.length cap (sts.flatMap Sn.out) rfl ?c0 hnews.out ?c2 ?c25 ?c3 ?c4 ?c5 (w.heap.size + 4) hsz ?_)
  case c0 => exact flat_len Sn.out_len sts
  case c2 => exact flat_one sts
  case c25 => omega
  case c3 => unfold maxLen; omega
  case c4 => omega
  case c5 => simp; omega
  intro g5 cap5 w5 hown5 hgrow hg5 hlt5
  (try simp only [Nat.zero_add, List.nil_append] at hown5)
  have hgo : ∀ k, some k = (Value.slice (some ⟨w.heap.size + 1 + 1 + 1, 0, none⟩) 0 0).ownBlock → k = w.heap.size + 3 := fun k e => by simpa [Value.ownBlock] using e
  have cg := (Ch.of_grown hgrow).mono (S' := (· = w.heap.size + 3)) hgo
  have hg5' : w.heap.size + 3 ≤ g5 := by
    rcases hg5 with h | h
    · have := hgo g5 h.symm; omega
    · omega
  have D5 := Lib.hid (show DoSt w (w5.alloc (.cells #[.int .i64 s.c, .int .i64 s.m, .int .i64 s.t, .int .i64 s.n] 36)) base g cap g5 cap5 w5.heap.size sts 4 i x a1 a2 0 0 0 s.c s.m s.t s.n from
    ⟨(((doesStart_box w ⟨4, i, x, a1, a2⟩).alloc (.cells #[] 36)).ch cg (by omega)).alloc _, (((doesStart_boxes w ⟨4, i, x, a1, a2⟩).1.alloc (.cells #[] 36)).ch cg (by omega)).alloc _,
     (((doesStart_boxes w ⟨4, i, x, a1, a2⟩).2.alloc (.cells #[] 36)).ch cg (by omega)).alloc _, Blk.new _ _ _, RefRow.alloc ⟨hown5⟩ _,
     ((HR.out.alloc (.cells #[] 36)).below cg (fun k hk e => by have e2 : g = k := (by simpa [Value.ownBlock] using hk); omega)).alloc _,
     (((Ch.of_below (fun _ => False) (doesStart_below w ⟨4, i, x, a1, a2⟩)).alloc (.cells #[] 36)).step cg (fun k hk e => by omega)).alloc _,
     hg5', by have := Nat.le_trans (Nat.le_of_eq hsz.symm) cg.size; omega, by have := (World.ownsRow.lt hown5 g5 rfl).2; omega, hg⟩)
  obtain ⟨qo, qr, rr, qa, ra, qs, rs, rg, l1, l2, l3, l4, l5⟩ := D5.out.cells
  obtain ⟨c0, c1, c2, c3⟩ := D5.out.at HI.out
  have hlw : g5 < w5.heap.size := hlt5
  have e0 : w5.cell? ⟨g5, i * 4, none⟩ = some (.int .i64 s.c) := by rw [← c0, World.cell?_alloc_past _ _ _ hlw]
  have e1 : w5.cell? ⟨g5, i * 4 + 1, none⟩ = some (.int .i64 s.m) := by rw [← c1, World.cell?_alloc_past _ _ _ hlw]
  have e2 : w5.cell? ⟨g5, i * 4 + 2, none⟩ = some (.int .i64 s.t) := by rw [← c2, World.cell?_alloc_past _ _ _ hlw]
  have e3 : w5.cell? ⟨g5, i * 4 + 3, none⟩ = some (.int .i64 s.n) := by rw [← c3, World.cell?_alloc_past _ _ _ hlw]
  have BO : Blk w5 w.heap.size #[.int .i64 4, .int .i64 i, .int .i64 x, .int .i64 a1, .int .i64 a2] 39 := ((doesStart_box w ⟨4, i, x, a1, a2⟩).alloc (.cells #[] 36)).ch cg (by omega)
  obtain ⟨po, po2⟩ := BO.cells
  have lo := BO.lt
  clear hg5 hgo cg hown5 hgrow HO hnews hsz BO c0 c1 c2 c3 HR
  go_upto_region 6 with fail
  generalize hw6 : w5.alloc (.cells #[.int .i64 s.c, .int .i64 s.m, .int .i64 s.t, .int .i64 s.n] 36) = w6 at D5 ⊢
  generalize hsb : w5.heap.size = sb at D5 ⊢
  have HG1 := D5.out.hg
  have HG2 := D5.out.hs
  have HG3 := D5.out.hgs
  have n1 : ¬ sb = w.heap.size + 1 := by omega
  have n2 : ¬ sb = w.heap.size + 1 + 1 := by omega
  have n3 : ¬ g5 = w.heap.size + 1 := by omega
  have n4 : ¬ g5 = w.heap.size + 1 + 1 := by omega
  have n5 : ¬ w.heap.size + 1 = sb := by omega
  have n6 : ¬ w.heap.size + 1 + 1 = sb := by omega
  have n7 : ¬ w.heap.size + 1 = g5 := by omega
  have n8 : ¬ w.heap.size + 1 + 1 = g5 := by omega
  have n9 : ¬ sb = g5 := by omega
  clear hw6 hsb qo qr rr qa ra qs rs rg l1 l2 l3 l4 l5 e0 e1 e2 e3 po po2 lo hlw hlt5 hg5' w5
  obtain ⟨qo, qr, rr, qa, ra, qs, rs, rg, l1, l2, l3, l4, l5⟩ := D5.out.cells
  obtain ⟨e0, e1, e2, e3⟩ := D5.out.at HI.out
  have KR5 := Lib.hid D5.out.row
  have C6 := D5.out.ch
  clear D5
  go_wp2_with fail
  go_region
  all_goals
    go_wp2
    refine bodyPost_ret (v := .tuple #[.slice (some ⟨g5, 0, none⟩) sts.length cap5, .agg #[.int .i64 0, .int .i64 0, .int .i64 0]]) (by simp [results, Try.results13, go_sem, qr, qa, l1, l2, l3, l4, l5, n3, n7]) rfl ⟨_, rfl, ?_, ?_⟩
    · (repeat (first | with_reducible exact KR5.out | with_reducible refine RefRow.drew ?_ | with_reducible refine RefRow.alloc ?_ _ | with_reducible refine RefRow.set' hlt ?_ | (with_reducible refine RefRow.far ?_ ?_; focus (first | omega | (simp; omega)))))
    · refine Ch.below ?_
      (repeat (first | with_reducible assumption | with_reducible exact Ch.refl _ _ | with_reducible refine Ch.drew ?_ | with_reducible refine Ch.alloc ?_ _ | (with_reducible refine Ch.set' ?_ ?_; focus (first | (right; rfl; done) | (left; simp; done) | (left; simp; omega) | (left; omega) | (right; simp; done) | (right; simp; omega)))))

set_option maxHeartbeats 2000000 in
set_option maxRecDepth 100000 in
theorem do_join_out (base : Nat) (v : Value) (sts : List Sn) (i : Nat) (s : Sn) (x a1 a2 : Int) (w : World) (h : RefRow w base v sts) (hi : sts[i]? = some s) (hl : sts.length ≤ 1000) (hbase : base ≤ w.heap.size) (hx : (sts.length : Int) ≤ x) :
    Calls Try.prog 13 #[v, .agg #[.int .i64 4, .int .i64 i, .int .i64 x, .int .i64 a1, .int .i64 a2]] w (DoPost base (sts.set i ⟨s.c, s.m, s.t, s.n⟩, ⟨0, 0, 0⟩) w) := by
  obtain ⟨i0, hinfo, hz0, hz1, hz2⟩ := info_parts infoSn
  have hj1 : decide ((0 : Int) ≤ x) = true := by simp; omega
  have hj2 : decide (x < (sts.length : Int)) = false := by simpa using hx
  clear hx
  obtain ⟨g, cap, rfl, hg, hbg, hcell, hfr⟩ := h.at hi
  have hlt := (List.getElem?_eq_some_iff.1 hi).1
  have h1 : decide ((i : Int) < 0) = false := by simp
  have h2 : decide (sts.length ≤ i) = false := by simp; omega
  have HD := h.below (Ch.of_below (fun _ => False) (doesStart_below w ⟨4, i, x, a1, a2⟩)) (fun _ _ => id)
  have hnews := Lib.hid (((HD.own.alloc (.cells #[] 36))).cells (g := g) rfl)
  have HR := Lib.hid HD
  have hown0 : ((doesStart w ⟨4, i, x, a1, a2⟩).alloc (.cells #[] 36)).ownsRow base 36 4 (.slice (some ⟨w.heap.size + 1 + 1 + 1, 0, none⟩) 0 0) 0 [] := by
    have := World.ownsRow_lit (e := 36) (size := 4) (base := base) (doesStart w ⟨4, i, x, a1, a2⟩) #[] 0 (by simp; omega) (by simp [maxLen]) (by simp)
    simpa using this
  have HO := Lib.hid hown0
  have hsz : ((doesStart w ⟨4, i, x, a1, a2⟩).alloc (.cells #[] 36)).heap.size = w.heap.size + 4 := by simp
  have HI := Lib.hid hi
  clear h hi hcell hfr HD hown0
  go_enter Try.func13, Try.ntmps13
  go_upto_region 4 with fail
  go_wp2_with (at_builtin; refine wpList_append_lies _ rfl (.tmp 21) (.tmp 22) 37 rfl base 36 i0 (.agg #[.int .i64 0, .int .i64 0, .int .i64 0, .int .i64 0]) 4 32 Try.underlying37 hinfo hz0 hz1 hz2 rfl (by decide) _ _ _ rfl HO.out ⟨g, 0, none⟩ sts.length cap (sts.flatMap Sn.out) rfl ?c0 hnews.out ?c2 ?c25 ?c3 ?c4 ?c5 (w.heap.size + 4) hsz ?_)
  case c0 => exact flat_len Sn.out_len sts
  case c2 => exact flat_one sts
  case c25 => omega
  case c3 => unfold maxLen; omega
  case c4 => omega
  case c5 => simp; omega
  intro g5 cap5 w5 hown5 hgrow hg5 hlt5
  (try simp only [Nat.zero_add, List.nil_append] at hown5)
  have hgo : ∀ k, some k = (Value.slice (some ⟨w.heap.size + 1 + 1 + 1, 0, none⟩) 0 0).ownBlock → k = w.heap.size + 3 := fun k e => by simpa [Value.ownBlock] using e
  have cg := (Ch.of_grown hgrow).mono (S' := (· = w.heap.size + 3)) hgo
  have hg5' : w.heap.size + 3 ≤ g5 := by
    rcases hg5 with h | h
    · have := hgo g5 h.symm; omega
    · omega
  have D5 := Lib.hid (show DoSt w (w5.alloc (.cells #[.int .i64 s.c, .int .i64 s.m, .int .i64 s.t, .int .i64 s.n] 36)) base g cap g5 cap5 w5.heap.size sts 4 i x a1 a2 0 0 0 s.c s.m s.t s.n from
    ⟨(((doesStart_box w ⟨4, i, x, a1, a2⟩).alloc (.cells #[] 36)).ch cg (by omega)).alloc _, (((doesStart_boxes w ⟨4, i, x, a1, a2⟩).1.alloc (.cells #[] 36)).ch cg (by omega)).alloc _,
     (((doesStart_boxes w ⟨4, i, x, a1, a2⟩).2.alloc (.cells #[] 36)).ch cg (by omega)).alloc _, Blk.new _ _ _, RefRow.alloc ⟨hown5⟩ _,
     ((HR.out.alloc (.cells #[] 36)).below cg (fun k hk e => by have e2 : g = k := (by simpa [Value.ownBlock] using hk); omega)).alloc _,
     (((Ch.of_below (fun _ => False) (doesStart_below w ⟨4, i, x, a1, a2⟩)).alloc (.cells #[] 36)).step cg (fun k hk e => by omega)).alloc _,
     hg5', by have := Nat.le_trans (Nat.le_of_eq hsz.symm) cg.size; omega, by have := (World.ownsRow.lt hown5 g5 rfl).2; omega, hg⟩)
  obtain ⟨qo, qr, rr, qa, ra, qs, rs, rg, l1, l2, l3, l4, l5⟩ := D5.out.cells
  obtain ⟨c0, c1, c2, c3⟩ := D5.out.at HI.out
  have hlw : g5 < w5.heap.size := hlt5
  have e0 : w5.cell? ⟨g5, i * 4, none⟩ = some (.int .i64 s.c) := by rw [← c0, World.cell?_alloc_past _ _ _ hlw]
  have e1 : w5.cell? ⟨g5, i * 4 + 1, none⟩ = some (.int .i64 s.m) := by rw [← c1, World.cell?_alloc_past _ _ _ hlw]
  have e2 : w5.cell? ⟨g5, i * 4 + 2, none⟩ = some (.int .i64 s.t) := by rw [← c2, World.cell?_alloc_past _ _ _ hlw]
  have e3 : w5.cell? ⟨g5, i * 4 + 3, none⟩ = some (.int .i64 s.n) := by rw [← c3, World.cell?_alloc_past _ _ _ hlw]
  have BO : Blk w5 w.heap.size #[.int .i64 4, .int .i64 i, .int .i64 x, .int .i64 a1, .int .i64 a2] 39 := ((doesStart_box w ⟨4, i, x, a1, a2⟩).alloc (.cells #[] 36)).ch cg (by omega)
  obtain ⟨po, po2⟩ := BO.cells
  have lo := BO.lt
  clear hg5 hgo cg hown5 hgrow HO hnews hsz BO c0 c1 c2 c3 HR
  go_upto_region 6 with fail
  generalize hw6 : w5.alloc (.cells #[.int .i64 s.c, .int .i64 s.m, .int .i64 s.t, .int .i64 s.n] 36) = w6 at D5 ⊢
  generalize hsb : w5.heap.size = sb at D5 ⊢
  have HG1 := D5.out.hg
  have HG2 := D5.out.hs
  have HG3 := D5.out.hgs
  have n1 : ¬ sb = w.heap.size + 1 := by omega
  have n2 : ¬ sb = w.heap.size + 1 + 1 := by omega
  have n3 : ¬ g5 = w.heap.size + 1 := by omega
  have n4 : ¬ g5 = w.heap.size + 1 + 1 := by omega
  have n5 : ¬ w.heap.size + 1 = sb := by omega
  have n6 : ¬ w.heap.size + 1 + 1 = sb := by omega
  have n7 : ¬ w.heap.size + 1 = g5 := by omega
  have n8 : ¬ w.heap.size + 1 + 1 = g5 := by omega
  have n9 : ¬ sb = g5 := by omega
  clear hw6 hsb qo qr rr qa ra qs rs rg l1 l2 l3 l4 l5 e0 e1 e2 e3 po po2 lo hlw hlt5 hg5' w5
  obtain ⟨qo, qr, rr, qa, ra, qs, rs, rg, l1, l2, l3, l4, l5⟩ := D5.out.cells
  obtain ⟨e0, e1, e2, e3⟩ := D5.out.at HI.out
  have KR5 := Lib.hid D5.out.row
  have C6 := D5.out.ch
  clear D5
  go_wp2_with fail
  go_region
  all_goals
    go_wp2
    refine bodyPost_ret (v := .tuple #[.slice (some ⟨g5, 0, none⟩) sts.length cap5, .agg #[.int .i64 0, .int .i64 0, .int .i64 0]]) (by simp [results, Try.results13, go_sem, qr, qa, l1, l2, l3, l4, l5, n3, n7]) rfl ⟨_, rfl, ?_, ?_⟩
    · (repeat (first | with_reducible exact KR5.out | with_reducible refine RefRow.drew ?_ | with_reducible refine RefRow.alloc ?_ _ | with_reducible refine RefRow.set' hlt ?_ | (with_reducible refine RefRow.far ?_ ?_; focus (first | omega | (simp; omega)))))
    · refine Ch.below ?_
      (repeat (first | with_reducible assumption | with_reducible exact Ch.refl _ _ | with_reducible refine Ch.drew ?_ | with_reducible refine Ch.alloc ?_ _ | (with_reducible refine Ch.set' ?_ ?_; focus (first | (right; rfl; done) | (left; simp; done) | (left; simp; omega) | (left; omega) | (right; simp; done) | (right; simp; omega)))))

set_option maxHeartbeats 2000000 in
set_option maxRecDepth 100000 in
theorem do_other (base : Nat) (v : Value) (sts : List Sn) (i : Nat) (s : Sn) (k x a1 a2 : Int) (w : World) (h : RefRow w base v sts) (hi : sts[i]? = some s) (hl : sts.length ≤ 1000) (hbase : base ≤ w.heap.size) (hk : ¬ k = 0 ∧ ¬ k = 1 ∧ ¬ k = 2 ∧ ¬ k = 3 ∧ ¬ k = 4) :
    Calls Try.prog 13 #[v, .agg #[.int .i64 k, .int .i64 i, .int .i64 x, .int .i64 a1, .int .i64 a2]] w (DoPost base (sts.set i ⟨s.c, s.m, s.t, s.n⟩, ⟨0, 0, 0⟩) w) := by
  obtain ⟨i0, hinfo, hz0, hz1, hz2⟩ := info_parts infoSn
  obtain ⟨hk0, hk1, hk2, hk3, hk4⟩ := hk
  have hk0' : (k == 0) = false := by simpa using hk0
  have hk1' : (k == 1) = false := by simpa using hk1
  have hk2' : (k == 2) = false := by simpa using hk2
  have hk3' : (k == 3) = false := by simpa using hk3
  have hk4' : (k == 4) = false := by simpa using hk4
  clear hk0 hk1 hk2 hk3 hk4
  obtain ⟨g, cap, rfl, hg, hbg, hcell, hfr⟩ := h.at hi
  have hlt := (List.getElem?_eq_some_iff.1 hi).1
  have h1 : decide ((i : Int) < 0) = false := by simp
  have h2 : decide (sts.length ≤ i) = false := by simp; omega
  have HD := h.below (Ch.of_below (fun _ => False) (doesStart_below w ⟨k, i, x, a1, a2⟩)) (fun _ _ => id)
  have hnews := Lib.hid (((HD.own.alloc (.cells #[] 36))).cells (g := g) rfl)
  have HR := Lib.hid HD
  have hown0 : ((doesStart w ⟨k, i, x, a1, a2⟩).alloc (.cells #[] 36)).ownsRow base 36 4 (.slice (some ⟨w.heap.size + 1 + 1 + 1, 0, none⟩) 0 0) 0 [] := by
    have := World.ownsRow_lit (e := 36) (size := 4) (base := base) (doesStart w ⟨k, i, x, a1, a2⟩) #[] 0 (by simp; omega) (by simp [maxLen]) (by simp)
    simpa using this
  have HO := Lib.hid hown0
  have hsz : ((doesStart w ⟨k, i, x, a1, a2⟩).alloc (.cells #[] 36)).heap.size = w.heap.size + 4 := by simp
  have HI := Lib.hid hi
  clear h hi hcell hfr HD hown0
  go_enter Try.func13, Try.ntmps13
  go_upto_region 4 with fail
  go_wp2_with (at_builtin; refine wpList_append_lies _ rfl (.tmp 21) (.tmp 22) 37 rfl base 36 i0 (.agg #[.int .i64 0, .int .i64 0, .int .i64 0, .int .i64 0]) 4 32 Try.underlying37 hinfo hz0 hz1 hz2 rfl (by decide) _ _ _ rfl HO.out ⟨g, 0, none⟩ sts.length cap (sts.flatMap Sn.out) rfl ?c0 hnews.out ?c2 ?c25 ?c3 ?c4 ?c5 (w.heap.size + 4) hsz ?_)
  case c0 => exact flat_len Sn.out_len sts
  case c2 => exact flat_one sts
  case c25 => omega
  case c3 => unfold maxLen; omega
  case c4 => omega
  case c5 => simp; omega
  intro g5 cap5 w5 hown5 hgrow hg5 hlt5
  (try simp only [Nat.zero_add, List.nil_append] at hown5)
  have hgo : ∀ k, some k = (Value.slice (some ⟨w.heap.size + 1 + 1 + 1, 0, none⟩) 0 0).ownBlock → k = w.heap.size + 3 := fun k e => by simpa [Value.ownBlock] using e
  have cg := (Ch.of_grown hgrow).mono (S' := (· = w.heap.size + 3)) hgo
  have hg5' : w.heap.size + 3 ≤ g5 := by
    rcases hg5 with h | h
    · have := hgo g5 h.symm; omega
    · omega
  have D5 := Lib.hid (show DoSt w (w5.alloc (.cells #[.int .i64 s.c, .int .i64 s.m, .int .i64 s.t, .int .i64 s.n] 36)) base g cap g5 cap5 w5.heap.size sts k i x a1 a2 0 0 0 s.c s.m s.t s.n from
    ⟨(((doesStart_box w ⟨k, i, x, a1, a2⟩).alloc (.cells #[] 36)).ch cg (by omega)).alloc _, (((doesStart_boxes w ⟨k, i, x, a1, a2⟩).1.alloc (.cells #[] 36)).ch cg (by omega)).alloc _,
     (((doesStart_boxes w ⟨k, i, x, a1, a2⟩).2.alloc (.cells #[] 36)).ch cg (by omega)).alloc _, Blk.new _ _ _, RefRow.alloc ⟨hown5⟩ _,
     ((HR.out.alloc (.cells #[] 36)).below cg (fun k hk e => by have e2 : g = k := (by simpa [Value.ownBlock] using hk); omega)).alloc _,
     (((Ch.of_below (fun _ => False) (doesStart_below w ⟨k, i, x, a1, a2⟩)).alloc (.cells #[] 36)).step cg (fun k hk e => by omega)).alloc _,
     hg5', by have := Nat.le_trans (Nat.le_of_eq hsz.symm) cg.size; omega, by have := (World.ownsRow.lt hown5 g5 rfl).2; omega, hg⟩)
  obtain ⟨qo, qr, rr, qa, ra, qs, rs, rg, l1, l2, l3, l4, l5⟩ := D5.out.cells
  obtain ⟨c0, c1, c2, c3⟩ := D5.out.at HI.out
  have hlw : g5 < w5.heap.size := hlt5
  have e0 : w5.cell? ⟨g5, i * 4, none⟩ = some (.int .i64 s.c) := by rw [← c0, World.cell?_alloc_past _ _ _ hlw]
  have e1 : w5.cell? ⟨g5, i * 4 + 1, none⟩ = some (.int .i64 s.m) := by rw [← c1, World.cell?_alloc_past _ _ _ hlw]
  have e2 : w5.cell? ⟨g5, i * 4 + 2, none⟩ = some (.int .i64 s.t) := by rw [← c2, World.cell?_alloc_past _ _ _ hlw]
  have e3 : w5.cell? ⟨g5, i * 4 + 3, none⟩ = some (.int .i64 s.n) := by rw [← c3, World.cell?_alloc_past _ _ _ hlw]
  have BO : Blk w5 w.heap.size #[.int .i64 k, .int .i64 i, .int .i64 x, .int .i64 a1, .int .i64 a2] 39 := ((doesStart_box w ⟨k, i, x, a1, a2⟩).alloc (.cells #[] 36)).ch cg (by omega)
  obtain ⟨po, po2⟩ := BO.cells
  have lo := BO.lt
  clear hg5 hgo cg hown5 hgrow HO hnews hsz BO c0 c1 c2 c3 HR
  go_upto_region 6 with fail
  generalize hw6 : w5.alloc (.cells #[.int .i64 s.c, .int .i64 s.m, .int .i64 s.t, .int .i64 s.n] 36) = w6 at D5 ⊢
  generalize hsb : w5.heap.size = sb at D5 ⊢
  have HG1 := D5.out.hg
  have HG2 := D5.out.hs
  have HG3 := D5.out.hgs
  have n1 : ¬ sb = w.heap.size + 1 := by omega
  have n2 : ¬ sb = w.heap.size + 1 + 1 := by omega
  have n3 : ¬ g5 = w.heap.size + 1 := by omega
  have n4 : ¬ g5 = w.heap.size + 1 + 1 := by omega
  have n5 : ¬ w.heap.size + 1 = sb := by omega
  have n6 : ¬ w.heap.size + 1 + 1 = sb := by omega
  have n7 : ¬ w.heap.size + 1 = g5 := by omega
  have n8 : ¬ w.heap.size + 1 + 1 = g5 := by omega
  have n9 : ¬ sb = g5 := by omega
  clear hw6 hsb qo qr rr qa ra qs rs rg l1 l2 l3 l4 l5 e0 e1 e2 e3 po po2 lo hlw hlt5 hg5' w5
  obtain ⟨qo, qr, rr, qa, ra, qs, rs, rg, l1, l2, l3, l4, l5⟩ := D5.out.cells
  obtain ⟨e0, e1, e2, e3⟩ := D5.out.at HI.out
  have KR5 := Lib.hid D5.out.row
  have C6 := D5.out.ch
  clear D5
  go_wp2_with fail
  go_region
  all_goals
    go_wp2
    refine bodyPost_ret (v := .tuple #[.slice (some ⟨g5, 0, none⟩) sts.length cap5, .agg #[.int .i64 0, .int .i64 0, .int .i64 0]]) (by simp [results, Try.results13, go_sem, qr, qa, l1, l2, l3, l4, l5, n3, n7]) rfl ⟨_, rfl, ?_, ?_⟩
    · (repeat (first | with_reducible exact KR5.out | with_reducible refine RefRow.drew ?_ | with_reducible refine RefRow.alloc ?_ _ | with_reducible refine RefRow.set' hlt ?_ | (with_reducible refine RefRow.far ?_ ?_; focus (first | omega | (simp; omega)))))
    · refine Ch.below ?_
      (repeat (first | with_reducible assumption | with_reducible exact Ch.refl _ _ | with_reducible refine Ch.drew ?_ | with_reducible refine Ch.alloc ?_ _ | (with_reducible refine Ch.set' ?_ ?_; focus (first | (right; rfl; done) | (left; simp; done) | (left; simp; omega) | (left; omega) | (right; simp; done) | (right; simp; omega)))))

end Go.Proofs.Ytjilfmphdncapaa
