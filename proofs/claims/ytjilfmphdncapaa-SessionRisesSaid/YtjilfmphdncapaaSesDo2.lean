/- The contract of the reference's Do: a join, a fork, nobody. -/
import Derived.Test.YtjilfmphdncapaaSesDo
set_option linter.unusedVariables false
set_option linter.unusedSimpArgs false
namespace Go.Proofs.Ytjilfmphdncapaa
open Go.RowKit

set_option maxHeartbeats 2000000 in
set_option maxRecDepth 100000 in
theorem do_join (base : Nat) (v : Value) (sts : List Sn) (i : Nat) (s : Sn) (j : Nat) (s2 : Sn) (x a1 a2 : Int) (w : World) (h : RefRow w base v sts) (hi : sts[i]? = some s) (hl : sts.length ≤ 1000) (hbase : base ≤ w.heap.size) (hj : sts[j]? = some s2) (hx : x = (j : Int)) :
    Calls Try.prog 13 #[v, .agg #[.int .i64 4, .int .i64 i, .int .i64 x, .int .i64 a1, .int .i64 a2]] w (DoPost base (sts.set i ⟨s.c, s.m, maxT s.t s.n s2.t s2.n, maxN s.t s.n s2.t s2.n⟩, ⟨0, 0, 0⟩) w) := by
  obtain ⟨i0, hinfo, hz0, hz1, hz2⟩ := info_parts infoSn
  subst hx
  have hlj : j < sts.length := (List.getElem?_eq_some_iff.1 hj).1
  have hj1 : decide ((0 : Int) ≤ (j : Int)) = true := by simp
  have hj2 : decide (j < sts.length) = true := by simpa using hlj
  have HJ := Lib.hid hj
  clear hj
  obtain ⟨g, cap, rfl, hg, hbg, hcell, hfr⟩ := h.at hi
  have hlt := (List.getElem?_eq_some_iff.1 hi).1
  have h1 : decide ((i : Int) < 0) = false := by simp
  have h2 : decide (sts.length ≤ i) = false := by simp; omega
  have HD := h.below (Ch.of_below (fun _ => False) (doesStart_below w ⟨4, i, j, a1, a2⟩)) (fun _ _ => id)
  have hnews := Lib.hid (((HD.own.alloc (.cells #[] 36))).cells (g := g) rfl)
  have HR := Lib.hid HD
  have hown0 : ((doesStart w ⟨4, i, j, a1, a2⟩).alloc (.cells #[] 36)).ownsRow base 36 4 (.slice (some ⟨w.heap.size + 1 + 1 + 1, 0, none⟩) 0 0) 0 [] := by
    have := World.ownsRow_lit (e := 36) (size := 4) (base := base) (doesStart w ⟨4, i, j, a1, a2⟩) #[] 0 (by simp; omega) (by simp [maxLen]) (by simp)
    simpa using this
  have HO := Lib.hid hown0
  have hsz : ((doesStart w ⟨4, i, j, a1, a2⟩).alloc (.cells #[] 36)).heap.size = w.heap.size + 4 := by simp
  have HI := Lib.hid hi
  clear h hi hcell hfr HD hown0
  go_enter Try.func13, Try.ntmps13
  go_upto_region 4 with fail
  go_wp2_with (at_builtin; refine wpList_append_lies _ rfl (.tmp 21) (.tmp 22) 37 rfl base 36 i0 (.agg #[.int .i64 0, .int .i64 0, .int .i64 0, .int .i64 0]) 4 32 Try.underlying37 hinfo hz0 hz1 hz2 rfl (by decide) _ _ _ rfl HO.out ⟨g, 0, none⟩ sts.length cap (sts.flatMap Sn.out) rfl ?c0 hnews.out ?c2 ?c25 ?c3 ?c4 ?c5 (w.heap.size + 4) hsz ?_)
  case c0 => exact flat_len Sn.out_len sts
  case c2 => exact flat_one sts
  case c25 => omega
  case c3 => unfold maxLen; omega
  case c4 => omega
  case c5 => simp; omega
  intro g5 cap5 w5 hown5 hgrow hg5 hlt5
  (try simp only [Nat.zero_add, List.nil_append] at hown5)
  have hgo : ∀ k, some k = (Value.slice (some ⟨w.heap.size + 1 + 1 + 1, 0, none⟩) 0 0).ownBlock → k = w.heap.size + 3 := fun k e => by simpa [Value.ownBlock] using e
  have cg := (Ch.of_grown hgrow).mono (S' := (· = w.heap.size + 3)) hgo
  have hg5' : w.heap.size + 3 ≤ g5 := by
    rcases hg5 with h | h
    · have := hgo g5 h.symm; omega
    · omega
  have D5 := Lib.hid (show DoSt w (w5.alloc (.cells #[.int .i64 s.c, .int .i64 s.m, .int .i64 s.t, .int .i64 s.n] 36)) base g cap g5 cap5 w5.heap.size sts 4 i j a1 a2 0 0 0 s.c s.m s.t s.n from
    ⟨(((doesStart_box w ⟨4, i, j, a1, a2⟩).alloc (.cells #[] 36)).ch cg (by omega)).alloc _, (((doesStart_boxes w ⟨4, i, j, a1, a2⟩).1.alloc (.cells #[] 36)).ch cg (by omega)).alloc _,
     (((doesStart_boxes w ⟨4, i, j, a1, a2⟩).2.alloc (.cells #[] 36)).ch cg (by omega)).alloc _, Blk.new _ _ _, RefRow.alloc ⟨hown5⟩ _,
     ((HR.out.alloc (.cells #[] 36)).below cg (fun k hk e => by have e2 : g = k := (by simpa [Value.ownBlock] using hk); omega)).alloc _,
     (((Ch.of_below (fun _ => False) (doesStart_below w ⟨4, i, j, a1, a2⟩)).alloc (.cells #[] 36)).step cg (fun k hk e => by omega)).alloc _,
     hg5', by have := Nat.le_trans (Nat.le_of_eq hsz.symm) cg.size; omega, by have := (World.ownsRow.lt hown5 g5 rfl).2; omega, hg⟩)
  obtain ⟨qo, qr, rr, qa, ra, qs, rs, rg, l1, l2, l3, l4, l5⟩ := D5.out.cells
  obtain ⟨c0, c1, c2, c3⟩ := D5.out.at HI.out
  have hlw : g5 < w5.heap.size := hlt5
  have e0 : w5.cell? ⟨g5, i * 4, none⟩ = some (.int .i64 s.c) := by rw [← c0, World.cell?_alloc_past _ _ _ hlw]
  have e1 : w5.cell? ⟨g5, i * 4 + 1, none⟩ = some (.int .i64 s.m) := by rw [← c1, World.cell?_alloc_past _ _ _ hlw]
  have e2 : w5.cell? ⟨g5, i * 4 + 2, none⟩ = some (.int .i64 s.t) := by rw [← c2, World.cell?_alloc_past _ _ _ hlw]
  have e3 : w5.cell? ⟨g5, i * 4 + 3, none⟩ = some (.int .i64 s.n) := by rw [← c3, World.cell?_alloc_past _ _ _ hlw]
  have BO : Blk w5 w.heap.size #[.int .i64 4, .int .i64 i, .int .i64 j, .int .i64 a1, .int .i64 a2] 39 := ((doesStart_box w ⟨4, i, j, a1, a2⟩).alloc (.cells #[] 36)).ch cg (by omega)
  obtain ⟨po, po2⟩ := BO.cells
  have lo := BO.lt
  clear hg5 hgo cg hown5 hgrow HO hnews hsz BO c0 c1 c2 c3 HR
  go_upto_region 6 with fail
  generalize hw6 : w5.alloc (.cells #[.int .i64 s.c, .int .i64 s.m, .int .i64 s.t, .int .i64 s.n] 36) = w6 at D5 ⊢
  generalize hsb : w5.heap.size = sb at D5 ⊢
  have HG1 := D5.out.hg
  have HG2 := D5.out.hs
  have HG3 := D5.out.hgs
  have n1 : ¬ sb = w.heap.size + 1 := by omega
  have n2 : ¬ sb = w.heap.size + 1 + 1 := by omega
  have n3 : ¬ g5 = w.heap.size + 1 := by omega
  have n4 : ¬ g5 = w.heap.size + 1 + 1 := by omega
  have n5 : ¬ w.heap.size + 1 = sb := by omega
  have n6 : ¬ w.heap.size + 1 + 1 = sb := by omega
  have n7 : ¬ w.heap.size + 1 = g5 := by omega
  have n8 : ¬ w.heap.size + 1 + 1 = g5 := by omega
  have n9 : ¬ sb = g5 := by omega
  clear hw6 hsb qo qr rr qa ra qs rs rg l1 l2 l3 l4 l5 e0 e1 e2 e3 po po2 lo hlw hlt5 hg5' w5
  obtain ⟨qo, qr, rr, qa, ra, qs, rs, rg, l1, l2, l3, l4, l5⟩ := D5.out.cells
  obtain ⟨e0, e1, e2, e3⟩ := D5.out.at HI.out
  obtain ⟨o0, o1, o2, o3⟩ := D5.out.atOld HJ.out
  have lg : g < w6.heap.size := by omega
  go_wp2_with fail
  go_region_with (go_at_call 19; refine (refMax_any s.t s.n s2.t s2.n _).mono ?_; rintro e w7 ⟨rfl, hb7⟩; have g1 := (hb7.cell (p := ⟨sb, 2, none⟩) l4).trans (qs 2); have g2 := (hb7.cell (p := ⟨sb, 3, none⟩) l4).trans (qs 3); have k1 := (hb7.frozen (p := ⟨sb, 2, none⟩) l4).trans (rs 2); have k2 := (hb7.frozen (p := ⟨sb, 3, none⟩) l4).trans (rs 3))
  all_goals
    have D6 := Lib.hid (D5.out.drew.below hb7)
    clear qo qr rr qa ra qs rs rg l1 l2 l3 l4 l5 e0 e1 e2 e3 o0 o1 o2 o3 lg hb7 D5 g1 g2 k1 k2
    obtain ⟨qo, qr, rr, qa, ra, qs, rs, rg, l1, l2, l3, l4, l5⟩ := D6.out.cells
    obtain ⟨e0, e1, e2, e3⟩ := D6.out.at HI.out
    have KR5 := Lib.hid D6.out.row
    have C6 := D6.out.ch
    clear D6
    go_wp2_with fail
    go_region
    all_goals
      go_wp2
      refine bodyPost_ret (v := .tuple #[.slice (some ⟨g5, 0, none⟩) sts.length cap5, .agg #[.int .i64 0, .int .i64 0, .int .i64 0]]) (by simp [results, Try.results13, go_sem, qr, qa, l1, l2, l3, l4, l5, n3, n7]) rfl ⟨_, rfl, ?_, ?_⟩
      · (repeat (first | with_reducible exact KR5.out | with_reducible refine RefRow.drew ?_ | with_reducible refine RefRow.alloc ?_ _ | with_reducible refine RefRow.set' hlt ?_ | (with_reducible refine RefRow.far ?_ ?_; focus (first | omega | (simp; omega)))))
      · refine Ch.below ?_
        (repeat (first | with_reducible assumption | with_reducible exact Ch.refl _ _ | with_reducible refine Ch.drew ?_ | with_reducible refine Ch.alloc ?_ _ | (with_reducible refine Ch.set' ?_ ?_; focus (first | (right; rfl; done) | (left; simp; done) | (left; simp; omega) | (left; omega) | (right; simp; done) | (right; simp; omega)))))

set_option maxHeartbeats 2000000 in
set_option maxRecDepth 100000 in
theorem do_fork_neg (base : Nat) (v : Value) (sts : List Sn) (i : Nat) (s : Sn) (x a1 a2 : Int) (w : World) (h : RefRow w base v sts) (hi : sts[i]? = some s) (hl : sts.length ≤ 1000) (hbase : base ≤ w.heap.size) (hx : x < 0) :
    Calls Try.prog 13 #[v, .agg #[.int .i64 3, .int .i64 i, .int .i64 x, .int .i64 a1, .int .i64 a2]] w (DoPost base (sts, ⟨1, 0, 0⟩) w) := by
  obtain ⟨i0, hinfo, hz0, hz1, hz2⟩ := info_parts infoSn
  have hj1 : decide (x < 0) = true := by simpa using hx
  clear hx
  obtain ⟨g, cap, rfl, hg, hbg, hcell, hfr⟩ := h.at hi
  have hlt := (List.getElem?_eq_some_iff.1 hi).1
  have h1 : decide ((i : Int) < 0) = false := by simp
  have h2 : decide (sts.length ≤ i) = false := by simp; omega
  have HD := h.below (Ch.of_below (fun _ => False) (doesStart_below w ⟨3, i, x, a1, a2⟩)) (fun _ _ => id)
  have hnews := Lib.hid (((HD.own.alloc (.cells #[] 36))).cells (g := g) rfl)
  have HR := Lib.hid HD
  have hown0 : ((doesStart w ⟨3, i, x, a1, a2⟩).alloc (.cells #[] 36)).ownsRow base 36 4 (.slice (some ⟨w.heap.size + 1 + 1 + 1, 0, none⟩) 0 0) 0 [] := by
    have := World.ownsRow_lit (e := 36) (size := 4) (base := base) (doesStart w ⟨3, i, x, a1, a2⟩) #[] 0 (by simp; omega) (by simp [maxLen]) (by simp)
    simpa using this
  have HO := Lib.hid hown0
  have hsz : ((doesStart w ⟨3, i, x, a1, a2⟩).alloc (.cells #[] 36)).heap.size = w.heap.size + 4 := by simp
  have HI := Lib.hid hi
  clear h hi hcell hfr HD hown0
  go_enter Try.func13, Try.ntmps13
  go_upto_region 4 with fail
  go_wp2_with (at_builtin; refine wpList_append_lies _ rfl (.tmp 21) (.tmp 22) 37 rfl base 36 i0 (.agg #[.int .i64 0, .int .i64 0, .int .i64 0, .int .i64 0]) 4 32 Try.underlying37 hinfo hz0 hz1 hz2 rfl (by decide) _ _ _ rfl HO.out ⟨g, 0, none⟩ sts.length cap (sts.flatMap Sn.out) rfl ?c0 hnews.out ?c2 ?c25 ?c3 ?c4 ?c5 (w.heap.size + 4) hsz ?_)
  case c0 => exact flat_len Sn.out_len sts
  case c2 => exact flat_one sts
  case c25 => omega
  case c3 => unfold maxLen; omega
  case c4 => omega
  case c5 => simp; omega
  intro g5 cap5 w5 hown5 hgrow hg5 hlt5
  (try simp only [Nat.zero_add, List.nil_append] at hown5)
  have hgo : ∀ k, some k = (Value.slice (some ⟨w.heap.size + 1 + 1 + 1, 0, none⟩) 0 0).ownBlock → k = w.heap.size + 3 := fun k e => by simpa [Value.ownBlock] using e
  have cg := (Ch.of_grown hgrow).mono (S' := (· = w.heap.size + 3)) hgo
  have hg5' : w.heap.size + 3 ≤ g5 := by
    rcases hg5 with h | h
    · have := hgo g5 h.symm; omega
    · omega
  have D5 := Lib.hid (show DoSt w (w5.alloc (.cells #[.int .i64 s.c, .int .i64 s.m, .int .i64 s.t, .int .i64 s.n] 36)) base g cap g5 cap5 w5.heap.size sts 3 i x a1 a2 0 0 0 s.c s.m s.t s.n from
    ⟨(((doesStart_box w ⟨3, i, x, a1, a2⟩).alloc (.cells #[] 36)).ch cg (by omega)).alloc _, (((doesStart_boxes w ⟨3, i, x, a1, a2⟩).1.alloc (.cells #[] 36)).ch cg (by omega)).alloc _,
     (((doesStart_boxes w ⟨3, i, x, a1, a2⟩).2.alloc (.cells #[] 36)).ch cg (by omega)).alloc _, Blk.new _ _ _, RefRow.alloc ⟨hown5⟩ _,
     ((HR.out.alloc (.cells #[] 36)).below cg (fun k hk e => by have e2 : g = k := (by simpa [Value.ownBlock] using hk); omega)).alloc _,
     (((Ch.of_below (fun _ => False) (doesStart_below w ⟨3, i, x, a1, a2⟩)).alloc (.cells #[] 36)).step cg (fun k hk e => by omega)).alloc _,
     hg5', by have := Nat.le_trans (Nat.le_of_eq hsz.symm) cg.size; omega, by have := (World.ownsRow.lt hown5 g5 rfl).2; omega, hg⟩)
  obtain ⟨qo, qr, rr, qa, ra, qs, rs, rg, l1, l2, l3, l4, l5⟩ := D5.out.cells
  obtain ⟨c0, c1, c2, c3⟩ := D5.out.at HI.out
  have hlw : g5 < w5.heap.size := hlt5
  have e0 : w5.cell? ⟨g5, i * 4, none⟩ = some (.int .i64 s.c) := by rw [← c0, World.cell?_alloc_past _ _ _ hlw]
  have e1 : w5.cell? ⟨g5, i * 4 + 1, none⟩ = some (.int .i64 s.m) := by rw [← c1, World.cell?_alloc_past _ _ _ hlw]
  have e2 : w5.cell? ⟨g5, i * 4 + 2, none⟩ = some (.int .i64 s.t) := by rw [← c2, World.cell?_alloc_past _ _ _ hlw]
  have e3 : w5.cell? ⟨g5, i * 4 + 3, none⟩ = some (.int .i64 s.n) := by rw [← c3, World.cell?_alloc_past _ _ _ hlw]
  have BO : Blk w5 w.heap.size #[.int .i64 3, .int .i64 i, .int .i64 x, .int .i64 a1, .int .i64 a2] 39 := ((doesStart_box w ⟨3, i, x, a1, a2⟩).alloc (.cells #[] 36)).ch cg (by omega)
  obtain ⟨po, po2⟩ := BO.cells
  have lo := BO.lt
  clear hg5 hgo cg hown5 hgrow HO hnews hsz BO c0 c1 c2 c3 HR
  go_upto_region 6 with fail
  generalize hw6 : w5.alloc (.cells #[.int .i64 s.c, .int .i64 s.m, .int .i64 s.t, .int .i64 s.n] 36) = w6 at D5 ⊢
  generalize hsb : w5.heap.size = sb at D5 ⊢
  have HG1 := D5.out.hg
  have HG2 := D5.out.hs
  have HG3 := D5.out.hgs
  have n1 : ¬ sb = w.heap.size + 1 := by omega
  have n2 : ¬ sb = w.heap.size + 1 + 1 := by omega
  have n3 : ¬ g5 = w.heap.size + 1 := by omega
  have n4 : ¬ g5 = w.heap.size + 1 + 1 := by omega
  have n5 : ¬ w.heap.size + 1 = sb := by omega
  have n6 : ¬ w.heap.size + 1 + 1 = sb := by omega
  have n7 : ¬ w.heap.size + 1 = g5 := by omega
  have n8 : ¬ w.heap.size + 1 + 1 = g5 := by omega
  have n9 : ¬ sb = g5 := by omega
  clear hw6 hsb qo qr rr qa ra qs rs rg l1 l2 l3 l4 l5 e0 e1 e2 e3 po po2 lo hlw hlt5 hg5' w5
  obtain ⟨qo, qr, rr, qa, ra, qs, rs, rg, l1, l2, l3, l4, l5⟩ := D5.out.cells
  obtain ⟨e0, e1, e2, e3⟩ := D5.out.at HI.out
  have KR5 := Lib.hid D5.out.old
  have C6 := D5.out.ch
  clear D5
  go_wp2_with fail
  go_region
  all_goals
    go_wp2
    refine bodyPost_ret (v := .tuple #[.slice (some ⟨g, 0, none⟩) sts.length cap, .agg #[.int .i64 1, .int .i64 0, .int .i64 0]]) (by simp [results, Try.results13, go_sem, qr, qa, l1, l2, l3, l4, l5, n3, n7]) rfl ⟨_, rfl, ?_, ?_⟩
    · (repeat (first | with_reducible exact KR5.out | with_reducible refine RefRow.drew ?_ | with_reducible refine RefRow.alloc ?_ _ | with_reducible refine RefRow.set' hlt ?_ | (with_reducible refine RefRow.far ?_ ?_; focus (first | omega | (simp; omega)))))
    · refine Ch.below ?_
      (repeat (first | with_reducible assumption | with_reducible exact Ch.refl _ _ | with_reducible refine Ch.drew ?_ | with_reducible refine Ch.alloc ?_ _ | (with_reducible refine Ch.set' ?_ ?_; focus (first | (right; rfl; done) | (left; simp; done) | (left; simp; omega) | (left; omega) | (right; simp; done) | (right; simp; omega)))))

set_option maxHeartbeats 2000000 in
set_option maxRecDepth 100000 in
theorem do_fork_much (base : Nat) (v : Value) (sts : List Sn) (i : Nat) (s : Sn) (x a1 a2 : Int) (w : World) (h : RefRow w base v sts) (hi : sts[i]? = some s) (hl : sts.length ≤ 1000) (hbase : base ≤ w.heap.size) (hx : 1099511627776 < x) :
    Calls Try.prog 13 #[v, .agg #[.int .i64 3, .int .i64 i, .int .i64 x, .int .i64 a1, .int .i64 a2]] w (DoPost base (sts, ⟨1, 0, 0⟩) w) := by
  obtain ⟨i0, hinfo, hz0, hz1, hz2⟩ := info_parts infoSn
  have hj1 : decide (x < 0) = false := by simp; omega
  have hj2 : decide (1099511627776 < x) = true := by simpa using hx
  clear hx
  obtain ⟨g, cap, rfl, hg, hbg, hcell, hfr⟩ := h.at hi
  have hlt := (List.getElem?_eq_some_iff.1 hi).1
  have h1 : decide ((i : Int) < 0) = false := by simp
  have h2 : decide (sts.length ≤ i) = false := by simp; omega
  have HD := h.below (Ch.of_below (fun _ => False) (doesStart_below w ⟨3, i, x, a1, a2⟩)) (fun _ _ => id)
  have hnews := Lib.hid (((HD.own.alloc (.cells #[] 36))).cells (g := g) rfl)
  have HR := Lib.hid HD
  have hown0 : ((doesStart w ⟨3, i, x, a1, a2⟩).alloc (.cells #[] 36)).ownsRow base 36 4 (.slice (some ⟨w.heap.size + 1 + 1 + 1, 0, none⟩) 0 0) 0 [] := by
    have := World.ownsRow_lit (e := 36) (size := 4) (base := base) (doesStart w ⟨3, i, x, a1, a2⟩) #[] 0 (by simp; omega) (by simp [maxLen]) (by simp)
    simpa using this
  have HO := Lib.hid hown0
  have hsz : ((doesStart w ⟨3, i, x, a1, a2⟩).alloc (.cells #[] 36)).heap.size = w.heap.size + 4 := by simp
  have HI := Lib.hid hi
  clear h hi hcell hfr HD hown0
  go_enter Try.func13, Try.ntmps13
  go_upto_region 4 with fail
  go_wp2_with (at_builtin; refine wpList_append_lies _ rfl (.tmp 21) (.tmp 22) 37 rfl base 36 i0 (.agg #[.int .i64 0, .int .i64 0, .int .i64 0, .int .i64 0]) 4 32 Try.underlying37 hinfo hz0 hz1 hz2 rfl (by decide) _ _ _ rfl HO.out ⟨g, 0, none⟩ sts.length cap (sts.flatMap Sn.out) rfl ?c0 hnews.out ?c2 ?c25 ?c3 ?c4 ?c5 (w.heap.size + 4) hsz ?_)
  case c0 => exact flat_len Sn.out_len sts
  case c2 => exact flat_one sts
  case c25 => omega
  case c3 => unfold maxLen; omega
  case c4 => omega
  case c5 => simp; omega
  intro g5 cap5 w5 hown5 hgrow hg5 hlt5
  (try simp only [Nat.zero_add, List.nil_append] at hown5)
  have hgo : ∀ k, some k = (Value.slice (some ⟨w.heap.size + 1 + 1 + 1, 0, none⟩) 0 0).ownBlock → k = w.heap.size + 3 := fun k e => by simpa [Value.ownBlock] using e
  have cg := (Ch.of_grown hgrow).mono (S' := (· = w.heap.size + 3)) hgo
  have hg5' : w.heap.size + 3 ≤ g5 := by
    rcases hg5 with h | h
    · have := hgo g5 h.symm; omega
    · omega
  have D5 := Lib.hid (show DoSt w (w5.alloc (.cells #[.int .i64 s.c, .int .i64 s.m, .int .i64 s.t, .int .i64 s.n] 36)) base g cap g5 cap5 w5.heap.size sts 3 i x a1 a2 0 0 0 s.c s.m s.t s.n from
    ⟨(((doesStart_box w ⟨3, i, x, a1, a2⟩).alloc (.cells #[] 36)).ch cg (by omega)).alloc _, (((doesStart_boxes w ⟨3, i, x, a1, a2⟩).1.alloc (.cells #[] 36)).ch cg (by omega)).alloc _,
     (((doesStart_boxes w ⟨3, i, x, a1, a2⟩).2.alloc (.cells #[] 36)).ch cg (by omega)).alloc _, Blk.new _ _ _, RefRow.alloc ⟨hown5⟩ _,
     ((HR.out.alloc (.cells #[] 36)).below cg (fun k hk e => by have e2 : g = k := (by simpa [Value.ownBlock] using hk); omega)).alloc _,
     (((Ch.of_below (fun _ => False) (doesStart_below w ⟨3, i, x, a1, a2⟩)).alloc (.cells #[] 36)).step cg (fun k hk e => by omega)).alloc _,
     hg5', by have := Nat.le_trans (Nat.le_of_eq hsz.symm) cg.size; omega, by have := (World.ownsRow.lt hown5 g5 rfl).2; omega, hg⟩)
  obtain ⟨qo, qr, rr, qa, ra, qs, rs, rg, l1, l2, l3, l4, l5⟩ := D5.out.cells
  obtain ⟨c0, c1, c2, c3⟩ := D5.out.at HI.out
  have hlw : g5 < w5.heap.size := hlt5
  have e0 : w5.cell? ⟨g5, i * 4, none⟩ = some (.int .i64 s.c) := by rw [← c0, World.cell?_alloc_past _ _ _ hlw]
  have e1 : w5.cell? ⟨g5, i * 4 + 1, none⟩ = some (.int .i64 s.m) := by rw [← c1, World.cell?_alloc_past _ _ _ hlw]
  have e2 : w5.cell? ⟨g5, i * 4 + 2, none⟩ = some (.int .i64 s.t) := by rw [← c2, World.cell?_alloc_past _ _ _ hlw]
  have e3 : w5.cell? ⟨g5, i * 4 + 3, none⟩ = some (.int .i64 s.n) := by rw [← c3, World.cell?_alloc_past _ _ _ hlw]
  have BO : Blk w5 w.heap.size #[.int .i64 3, .int .i64 i, .int .i64 x, .int .i64 a1, .int .i64 a2] 39 := ((doesStart_box w ⟨3, i, x, a1, a2⟩).alloc (.cells #[] 36)).ch cg (by omega)
  obtain ⟨po, po2⟩ := BO.cells
  have lo := BO.lt
  clear hg5 hgo cg hown5 hgrow HO hnews hsz BO c0 c1 c2 c3 HR
  go_upto_region 6 with fail
  generalize hw6 : w5.alloc (.cells #[.int .i64 s.c, .int .i64 s.m, .int .i64 s.t, .int .i64 s.n] 36) = w6 at D5 ⊢
  generalize hsb : w5.heap.size = sb at D5 ⊢
  have HG1 := D5.out.hg
  have HG2 := D5.out.hs
  have HG3 := D5.out.hgs
  have n1 : ¬ sb = w.heap.size + 1 := by omega
  have n2 : ¬ sb = w.heap.size + 1 + 1 := by omega
  have n3 : ¬ g5 = w.heap.size + 1 := by omega
  have n4 : ¬ g5 = w.heap.size + 1 + 1 := by omega
  have n5 : ¬ w.heap.size + 1 = sb := by omega
  have n6 : ¬ w.heap.size + 1 + 1 = sb := by omega
  have n7 : ¬ w.heap.size + 1 = g5 := by omega
  have n8 : ¬ w.heap.size + 1 + 1 = g5 := by omega
  have n9 : ¬ sb = g5 := by omega
  clear hw6 hsb qo qr rr qa ra qs rs rg l1 l2 l3 l4 l5 e0 e1 e2 e3 po po2 lo hlw hlt5 hg5' w5
  obtain ⟨qo, qr, rr, qa, ra, qs, rs, rg, l1, l2, l3, l4, l5⟩ := D5.out.cells
  obtain ⟨e0, e1, e2, e3⟩ := D5.out.at HI.out
  have KR5 := Lib.hid D5.out.old
  have C6 := D5.out.ch
  clear D5
  go_wp2_with fail
  go_region
  all_goals
    go_wp2
    refine bodyPost_ret (v := .tuple #[.slice (some ⟨g, 0, none⟩) sts.length cap, .agg #[.int .i64 1, .int .i64 0, .int .i64 0]]) (by simp [results, Try.results13, go_sem, qr, qa, l1, l2, l3, l4, l5, n3, n7]) rfl ⟨_, rfl, ?_, ?_⟩
    · (repeat (first | with_reducible exact KR5.out | with_reducible refine RefRow.drew ?_ | with_reducible refine RefRow.alloc ?_ _ | with_reducible refine RefRow.set' hlt ?_ | (with_reducible refine RefRow.far ?_ ?_; focus (first | omega | (simp; omega)))))
    · refine Ch.below ?_
      (repeat (first | with_reducible assumption | with_reducible exact Ch.refl _ _ | with_reducible refine Ch.drew ?_ | with_reducible refine Ch.alloc ?_ _ | (with_reducible refine Ch.set' ?_ ?_; focus (first | (right; rfl; done) | (left; simp; done) | (left; simp; omega) | (left; omega) | (right; simp; done) | (right; simp; omega)))))

set_option maxHeartbeats 2000000 in
set_option maxRecDepth 100000 in
theorem do_fork_ok (base : Nat) (v : Value) (sts : List Sn) (i : Nat) (s : Sn) (x a1 a2 : Int) (w : World) (h : RefRow w base v sts) (hi : sts[i]? = some s) (hl : sts.length ≤ 1000) (hbase : base ≤ w.heap.size) (hx0 : 0 ≤ x) (hx1 : x ≤ 1099511627776) :
    Calls Try.prog 13 #[v, .agg #[.int .i64 3, .int .i64 i, .int .i64 x, .int .i64 a1, .int .i64 a2]] w (DoPost base ((sts ++ [(⟨x, 0, s.t, s.n⟩ : Sn)]).set i ⟨s.c, s.m, s.t, s.n⟩, ⟨0, 0, 0⟩) w) := by
  obtain ⟨i0, hinfo, hz0, hz1, hz2⟩ := info_parts infoSn
  have hj1 : decide (x < 0) = false := by simp; omega
  have hj2 : decide (1099511627776 < x) = false := by simp; omega
  obtain ⟨g, cap, rfl, hg, hbg, hcell, hfr⟩ := h.at hi
  have hlt := (List.getElem?_eq_some_iff.1 hi).1
  have h1 : decide ((i : Int) < 0) = false := by simp
  have h2 : decide (sts.length ≤ i) = false := by simp; omega
  have HD := h.below (Ch.of_below (fun _ => False) (doesStart_below w ⟨3, i, x, a1, a2⟩)) (fun _ _ => id)
  have hnews := Lib.hid (((HD.own.alloc (.cells #[] 36))).cells (g := g) rfl)
  have HR := Lib.hid HD
  have hown0 : ((doesStart w ⟨3, i, x, a1, a2⟩).alloc (.cells #[] 36)).ownsRow base 36 4 (.slice (some ⟨w.heap.size + 1 + 1 + 1, 0, none⟩) 0 0) 0 [] := by
    have := World.ownsRow_lit (e := 36) (size := 4) (base := base) (doesStart w ⟨3, i, x, a1, a2⟩) #[] 0 (by simp; omega) (by simp [maxLen]) (by simp)
    simpa using this
  have HO := Lib.hid hown0
  have hsz : ((doesStart w ⟨3, i, x, a1, a2⟩).alloc (.cells #[] 36)).heap.size = w.heap.size + 4 := by simp
  have HI := Lib.hid hi
  clear h hi hcell hfr HD hown0
  go_enter Try.func13, Try.ntmps13
  go_upto_region 4 with fail
  go_wp2_with (at_builtin; refine wpList_append_lies _ rfl (.tmp 21) (.tmp 22) 37 rfl base 36 i0 (.agg #[.int .i64 0, .int .i64 0, .int .i64 0, .int .i64 0]) 4 32 Try.underlying37 hinfo hz0 hz1 hz2 rfl (by decide) _ _ _ rfl HO.out ⟨g, 0, none⟩ sts.length cap (sts.flatMap Sn.out) rfl ?c0 hnews.out ?c2 ?c25 ?c3 ?c4 ?c5 (w.heap.size + 4) hsz ?_)
  case c0 => exact flat_len Sn.out_len sts
  case c2 => exact flat_one sts
  case c25 => omega
  case c3 => unfold maxLen; omega
  case c4 => omega
  case c5 => simp; omega
  intro g5 cap5 w5 hown5 hgrow hg5 hlt5
  (try simp only [Nat.zero_add, List.nil_append] at hown5)
  have hgo : ∀ k, some k = (Value.slice (some ⟨w.heap.size + 1 + 1 + 1, 0, none⟩) 0 0).ownBlock → k = w.heap.size + 3 := fun k e => by simpa [Value.ownBlock] using e
  have cg := (Ch.of_grown hgrow).mono (S' := (· = w.heap.size + 3)) hgo
  have hg5' : w.heap.size + 3 ≤ g5 := by
    rcases hg5 with h | h
    · have := hgo g5 h.symm; omega
    · omega
  have D5 := Lib.hid (show DoSt w (w5.alloc (.cells #[.int .i64 s.c, .int .i64 s.m, .int .i64 s.t, .int .i64 s.n] 36)) base g cap g5 cap5 w5.heap.size sts 3 i x a1 a2 0 0 0 s.c s.m s.t s.n from
    ⟨(((doesStart_box w ⟨3, i, x, a1, a2⟩).alloc (.cells #[] 36)).ch cg (by omega)).alloc _, (((doesStart_boxes w ⟨3, i, x, a1, a2⟩).1.alloc (.cells #[] 36)).ch cg (by omega)).alloc _,
     (((doesStart_boxes w ⟨3, i, x, a1, a2⟩).2.alloc (.cells #[] 36)).ch cg (by omega)).alloc _, Blk.new _ _ _, RefRow.alloc ⟨hown5⟩ _,
     ((HR.out.alloc (.cells #[] 36)).below cg (fun k hk e => by have e2 : g = k := (by simpa [Value.ownBlock] using hk); omega)).alloc _,
     (((Ch.of_below (fun _ => False) (doesStart_below w ⟨3, i, x, a1, a2⟩)).alloc (.cells #[] 36)).step cg (fun k hk e => by omega)).alloc _,
     hg5', by have := Nat.le_trans (Nat.le_of_eq hsz.symm) cg.size; omega, by have := (World.ownsRow.lt hown5 g5 rfl).2; omega, hg⟩)
  obtain ⟨qo, qr, rr, qa, ra, qs, rs, rg, l1, l2, l3, l4, l5⟩ := D5.out.cells
  obtain ⟨c0, c1, c2, c3⟩ := D5.out.at HI.out
  have hlw : g5 < w5.heap.size := hlt5
  have e0 : w5.cell? ⟨g5, i * 4, none⟩ = some (.int .i64 s.c) := by rw [← c0, World.cell?_alloc_past _ _ _ hlw]
  have e1 : w5.cell? ⟨g5, i * 4 + 1, none⟩ = some (.int .i64 s.m) := by rw [← c1, World.cell?_alloc_past _ _ _ hlw]
  have e2 : w5.cell? ⟨g5, i * 4 + 2, none⟩ = some (.int .i64 s.t) := by rw [← c2, World.cell?_alloc_past _ _ _ hlw]
  have e3 : w5.cell? ⟨g5, i * 4 + 3, none⟩ = some (.int .i64 s.n) := by rw [← c3, World.cell?_alloc_past _ _ _ hlw]
  have BO : Blk w5 w.heap.size #[.int .i64 3, .int .i64 i, .int .i64 x, .int .i64 a1, .int .i64 a2] 39 := ((doesStart_box w ⟨3, i, x, a1, a2⟩).alloc (.cells #[] 36)).ch cg (by omega)
  obtain ⟨po, po2⟩ := BO.cells
  have lo := BO.lt
  clear hg5 hgo cg hown5 hgrow HO hnews hsz BO c0 c1 c2 c3 HR
  go_upto_region 6 with fail
  generalize hw6 : w5.alloc (.cells #[.int .i64 s.c, .int .i64 s.m, .int .i64 s.t, .int .i64 s.n] 36) = w6 at D5 ⊢
  generalize hsb : w5.heap.size = sb at D5 ⊢
  have HG1 := D5.out.hg
  have HG2 := D5.out.hs
  have HG3 := D5.out.hgs
  have n1 : ¬ sb = w.heap.size + 1 := by omega
  have n2 : ¬ sb = w.heap.size + 1 + 1 := by omega
  have n3 : ¬ g5 = w.heap.size + 1 := by omega
  have n4 : ¬ g5 = w.heap.size + 1 + 1 := by omega
  have n5 : ¬ w.heap.size + 1 = sb := by omega
  have n6 : ¬ w.heap.size + 1 + 1 = sb := by omega
  have n7 : ¬ w.heap.size + 1 = g5 := by omega
  have n8 : ¬ w.heap.size + 1 + 1 = g5 := by omega
  have n9 : ¬ sb = g5 := by omega
  clear hw6 hsb qo qr rr qa ra qs rs rg l1 l2 l3 l4 l5 e0 e1 e2 e3 po po2 lo hlw hlt5 hg5' w5
  obtain ⟨qo, qr, rr, qa, ra, qs, rs, rg, l1, l2, l3, l4, l5⟩ := D5.out.cells
  obtain ⟨e0, e1, e2, e3⟩ := D5.out.at HI.out
  have HO := Lib.hid (D5.out.row.own.alloc (.cells #[.int .i64 x, .int .i64 0, .int .i64 s.t, .int .i64 s.n] 36))
  have hbase6 : base ≤ w6.heap.size := by omega
  have hsz6 : (w6.alloc (.cells #[.int .i64 x, .int .i64 0, .int .i64 s.t, .int .i64 s.n] 36)).heap.size = w6.heap.size + 1 := by simp
  go_wp2_with (at_builtin; refine wpList_append_lies _ rfl (.tmp 89) (.tmp 95) 37 rfl base 36 i0 (.agg #[.int .i64 0, .int .i64 0, .int .i64 0, .int .i64 0]) 4 32 Try.underlying37 hinfo hz0 hz1 hz2 rfl (by decide) _ _ _ rfl HO.out ⟨w6.heap.size, 0, none⟩ 1 1 [.int .i64 x, .int .i64 0, .int .i64 s.t, .int .i64 s.n] rfl rfl ?d1 ?d2 (by decide) ?d3 ?d4 ?d5 (w6.heap.size + 1) hsz6 ?_)
  case d1 => exact World.news_of_block (cs := #[.int .i64 x, .int .i64 0, .int .i64 s.t, .int .i64 s.n]) (Blk.new w6 _ 36)
  case d2 => intro u hu; simp at hu; rcases hu with rfl | rfl | rfl | rfl <;> rfl
  case d3 => unfold maxLen; omega
  case d4 => omega
  case d5 => simp; omega
  intro g7 cap7 w7 hown7 hgrow7 hg7 hlt7
  have hgo : ∀ k, some k = (Value.slice (some ⟨g5, 0, none⟩) sts.length cap5).ownBlock → k = g5 := fun k e => by simpa [Value.ownBlock] using e
  have cg := ((Ch.refl (· = g5) w6).alloc (.cells #[.int .i64 x, .int .i64 0, .int .i64 s.t, .int .i64 s.n] 36)).trans ((Ch.of_grown hgrow7).mono (S' := (· = g5)) hgo)
  have BO := D5.out.bo.ch cg (by omega)
  have BR := D5.out.br.ch cg (by omega)
  have BA := D5.out.ba.ch cg (by omega)
  have BS := D5.out.bs.ch cg n9
  have C6 := D5.out.ch.step cg (fun k hk e => by omega)
  have KR5 := Lib.hid (show RefRow w7 base (.slice (some ⟨g7, 0, none⟩) (sts ++ [(⟨x, 0, s.t, s.n⟩ : Sn)]).length cap7) (sts ++ [⟨x, 0, s.t, s.n⟩]) from ⟨by simpa [Sn.out] using hown7⟩)
  have hg7' : w.heap.size + 3 ≤ g7 := by
    rcases hg7 with h | h
    · have := hgo g7 h.symm; omega
    · omega
  have hg7s : ¬ g7 = sb := by
    rcases hg7 with h | h
    · have := hgo g7 h.symm; omega
    · omega
  have hlt2 : i < (sts ++ [(⟨x, 0, s.t, s.n⟩ : Sn)]).length := by simp; omega
  have hlen7 : (sts ++ [(⟨x, 0, s.t, s.n⟩ : Sn)]).length = sts.length + 1 := by simp
  have hj7 : sts.length + 1 ≤ 1001 := by omega
  obtain ⟨_, _, he, _, _, hcell7, hfr7⟩ := KR5.out.at (i := i) (s := s) (by rw [List.getElem?_append_left hlt]; exact HI.out)
  obtain ⟨rfl, rfl⟩ : g7 = _ ∧ cap7 = _ := by simpa using he
  clear qo qr rr qa ra qs rs rg l1 l2 l3 l4 l5 e0 e1 e2 e3
  have e0 : w7.cell? ⟨g7, i * 4, none⟩ = some (.int .i64 s.c) := hcell7 0 (by omega)
  have e1 : w7.cell? ⟨g7, i * 4 + 1, none⟩ = some (.int .i64 s.m) := hcell7 1 (by omega)
  have e2 : w7.cell? ⟨g7, i * 4 + 2, none⟩ = some (.int .i64 s.t) := hcell7 2 (by omega)
  have e3 : w7.cell? ⟨g7, i * 4 + 3, none⟩ = some (.int .i64 s.n) := hcell7 3 (by omega)
  obtain ⟨qo, ro⟩ := BO.cells
  obtain ⟨qr, rr⟩ := BR.cells
  obtain ⟨qa, ra⟩ := BA.cells
  obtain ⟨qs, rs⟩ := BS.cells
  have l1 := BO.lt
  have l2 := BR.lt
  have l3 := BA.lt
  have l4 := BS.lt
  have m1 : ¬ g7 = w.heap.size + 1 := by omega
  have m2 : ¬ g7 = w.heap.size + 1 + 1 := by omega
  have m3 : ¬ w.heap.size + 1 = g7 := by omega
  have m4 : ¬ w.heap.size + 1 + 1 = g7 := by omega
  have m5 : ¬ sb = g7 := by omega
  have hlti : i < sts.length + 1 := by omega
  clear he hcell7 cg BO BR BA BS hgo hown7 hgrow7 hg7 HO hsz6 D5
  have hlt := hlt2
  go_wp2_with fail
  go_region
  all_goals
    go_wp2
    refine bodyPost_ret (v := .tuple #[.slice (some ⟨g7, 0, none⟩) (sts.length + 1) cap7, .agg #[.int .i64 0, .int .i64 0, .int .i64 0]]) (by simp [results, Try.results13, go_sem, qr, qa, l1, l2, l3, l4, hlt7, m1, m3]) rfl ⟨_, rfl, ?_, ?_⟩
    · rw [← hlen7]
      (repeat (first | with_reducible exact KR5.out | with_reducible refine RefRow.drew ?_ | with_reducible refine RefRow.alloc ?_ _ | with_reducible refine RefRow.set' hlt ?_ | (with_reducible refine RefRow.far ?_ ?_; focus (first | omega | (simp; omega)))))
    · refine Ch.below ?_
      (repeat (first | with_reducible assumption | with_reducible exact Ch.refl _ _ | with_reducible refine Ch.drew ?_ | with_reducible refine Ch.alloc ?_ _ | (with_reducible refine Ch.set' ?_ ?_; focus (first | (right; rfl; done) | (left; simp; done) | (left; simp; omega) | (left; omega) | (right; simp; done) | (right; simp; omega)))))

set_option maxRecDepth 100000 in
theorem do_none (base : Nat) (v : Value) (sts : List Sn) (o : OpD) (w : World) (h : RefRow w base v sts) (h0 : o.who < 0 ∨ (sts.length : Int) ≤ o.who) (hl : sts.length ≤ 1000) :
    Calls Try.prog 13 #[v, .agg o.cells] w (DoPost base (sts, ⟨0, 0, 0⟩) w) := by
  have hv : ∃ a c, v = .slice a sts.length c := by
    rcases h.own.2 with ⟨rfl, h1⟩ | ⟨g, cap, cur, hv, _⟩
    · exact ⟨none, 0, by rw [h1]⟩
    · exact ⟨_, _, hv⟩
  obtain ⟨a, c, rfl⟩ := hv
  obtain ⟨ok, who, ox, oa1, oa2⟩ := o
  simp only [OpD.cells] at *
  have HW := Lib.hid h
  clear h
  by_cases hneg : who < 0
  · have h1 : decide (who < 0) = true := by simpa using hneg
    clear h0 hneg
    go_enter Try.func13, Try.ntmps13
    go_wp2_with fail
    go_region
    all_goals
      go_wp2
      exact bodyPost_ret (v := .tuple #[.slice a sts.length c, .agg #[.int .i64 0, .int .i64 0, .int .i64 0]]) (by simp [results, Try.results13, go_sem]) rfl ⟨_, rfl, HW.out.below (S := fun _ => False) (by (repeat (first | with_reducible assumption | with_reducible exact Ch.refl _ _ | with_reducible refine Ch.drew ?_ | with_reducible refine Ch.alloc ?_ _ | (with_reducible refine Ch.set' ?_ ?_; focus (first | (right; rfl; done) | (left; simp; done) | (left; simp; omega) | (left; omega) | (right; simp; done) | (right; simp; omega)))))) (fun _ _ => id), Ch.below (by (repeat (first | with_reducible assumption | with_reducible exact Ch.refl _ _ | with_reducible refine Ch.drew ?_ | with_reducible refine Ch.alloc ?_ _ | (with_reducible refine Ch.set' ?_ ?_; focus (first | (right; rfl; done) | (left; simp; done) | (left; simp; omega) | (left; omega) | (right; simp; done) | (right; simp; omega))))))⟩
  · have h1 : decide (who < 0) = false := by simpa using hneg
    have h2 : decide ((sts.length : Int) ≤ who) = true := by simp; omega
    clear h0 hneg
    go_enter Try.func13, Try.ntmps13
    go_wp2_with fail
    go_region
    all_goals
      go_wp2
      exact bodyPost_ret (v := .tuple #[.slice a sts.length c, .agg #[.int .i64 0, .int .i64 0, .int .i64 0]]) (by simp [results, Try.results13, go_sem]) rfl ⟨_, rfl, HW.out.below (S := fun _ => False) (by (repeat (first | with_reducible assumption | with_reducible exact Ch.refl _ _ | with_reducible refine Ch.drew ?_ | with_reducible refine Ch.alloc ?_ _ | (with_reducible refine Ch.set' ?_ ?_; focus (first | (right; rfl; done) | (left; simp; done) | (left; simp; omega) | (left; omega) | (right; simp; done) | (right; simp; omega)))))) (fun _ _ => id), Ch.below (by (repeat (first | with_reducible assumption | with_reducible exact Ch.refl _ _ | with_reducible refine Ch.drew ?_ | with_reducible refine Ch.alloc ?_ _ | (with_reducible refine Ch.set' ?_ ?_; focus (first | (right; rfl; done) | (left; simp; done) | (left; simp; omega) | (left; omega) | (right; simp; done) | (right; simp; omega))))))⟩

end Go.Proofs.Ytjilfmphdncapaa
