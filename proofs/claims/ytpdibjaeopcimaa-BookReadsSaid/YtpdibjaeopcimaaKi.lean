/- book's laws: Next and Prev. -/
import Derived.Test.YtpdibjaeopcimaaKh
set_option linter.unusedVariables false
set_option linter.unusedSimpArgs false
namespace Go.Proofs.Ytpdibjaeopcimaa
open Go.RowKit

set_option maxRecDepth 100000 in
set_option maxHeartbeats 8000000 in
theorem enext_any {w : World} {G : Nat → Prop} {W : World} {eb x sb : Nat} {a1 a2 c m t0 n0 : Int} {st : XSt} (b t : Int) (p : Pl) (h : Asks w G W eb x sb a1 a2 c m t0 n0 st) (hB : inB b = true) (hT : inB t = true) :
    Calls Try.prog 15 #[.pointer (some ⟨eb, 0, none⟩), .pointer (some ⟨sb, 0, none⟩), .int .i64 b, .int .i64 t, plV p] W fun e w' => ∃ tv, e = .returned (.tuple #[recV ((nextE st (1 + 1024 * b + t) p).1.getD rw0).r tv, plV ((nextE st (1 + 1024 * b + t) p).1.getD rw0).pl, .int .i64 (nextE st (1 + 1024 * b + t) p).2]) ∧ VRow (fun k => W.heap.size ≤ k) 1 intO w' tv ((nextE st (1 + 1024 * b + t) p).1.getD rw0).r.tags ∧ Asked W sb a1 a2 c m t0 n0 w' := by
  obtain ⟨pa, pb⟩ := p
  have hb0 : Below W.heap.size W ((((W.alloc (.cells #[.pointer (some ⟨eb, 0, none⟩)] 27)).alloc (.cells #[.int .i64 pa, .int .i64 pb] 39)).alloc (.cells #[.int .i64 0, .int .i64 0, .slice none 0 0, .string ⟨#[]⟩] 26)).alloc (.cells #[.int .i64 0, .int .i64 0] 39)) := Ch.below (by (repeat (first | with_reducible assumption | with_reducible exact Ch.refl _ _ | with_reducible refine Ch.drew ?_ | with_reducible refine Ch.alloc ?_ _ | (with_reducible refine Ch.set' ?_ ?_; focus (first | (right; rfl; done) | (left; simp; done) | (left; simp; omega) | (left; omega) | (right; simp; done) | (right; simp; omega))))))
  have B1 := (((Blk.new W #[.pointer (some ⟨eb, 0, none⟩)] 27).alloc (.cells #[.int .i64 pa, .int .i64 pb] 39)).alloc (.cells #[.int .i64 0, .int .i64 0, .slice none 0 0, .string ⟨#[]⟩] 26)).alloc (.cells #[.int .i64 0, .int .i64 0] 39)
  have B2 := ((Blk.new (W.alloc (.cells #[.pointer (some ⟨eb, 0, none⟩)] 27)) #[.int .i64 pa, .int .i64 pb] 39).alloc (.cells #[.int .i64 0, .int .i64 0, .slice none 0 0, .string ⟨#[]⟩] 26)).alloc (.cells #[.int .i64 0, .int .i64 0] 39)
  have B3 := (Blk.new ((W.alloc (.cells #[.pointer (some ⟨eb, 0, none⟩)] 27)).alloc (.cells #[.int .i64 pa, .int .i64 pb] 39)) #[.int .i64 0, .int .i64 0, .slice none 0 0, .string ⟨#[]⟩] 26).alloc (.cells #[.int .i64 0, .int .i64 0] 39)
  have B4 := Blk.new (((W.alloc (.cells #[.pointer (some ⟨eb, 0, none⟩)] 27)).alloc (.cells #[.int .i64 pa, .int .i64 pb] 39)).alloc (.cells #[.int .i64 0, .int .i64 0, .slice none 0 0, .string ⟨#[]⟩] 26)) #[.int .i64 0, .int .i64 0] 39
  simp only [World.size_alloc] at B2 B3 B4
  obtain ⟨w0, hw0⟩ : ∃ w0, w0 = ((((W.alloc (.cells #[.pointer (some ⟨eb, 0, none⟩)] 27)).alloc (.cells #[.int .i64 pa, .int .i64 pb] 39)).alloc (.cells #[.int .i64 0, .int .i64 0, .slice none 0 0, .string ⟨#[]⟩] 26)).alloc (.cells #[.int .i64 0, .int .i64 0] 39)) := ⟨_, rfl⟩
  rw [← hw0] at hb0 B1 B2 B3 B4
  have hA := h.below hb0
  have hsl := Blk.lt h.ses
  obtain ⟨⟨o, code⟩, hoc⟩ : ∃ q, nextE st (1 + 1024 * b + t) (pa, pb) = q := ⟨_, rfl⟩
  have HRD := Lib.hid (reads_ok (R := fun e w'' => e = .returned (.int .i64 code) ∧ ∃ tv, Blk w'' (W.heap.size + 1 + 1) #[.int .i64 (o.getD rw0).r.id.1, .int .i64 (o.getD rw0).r.id.2, tv, .string (o.getD rw0).r.data] 26 ∧ Blk w'' (W.heap.size + 1 + 1 + 1) #[.int .i64 (o.getD rw0).pl.1, .int .i64 (o.getD rw0).pl.2] 39 ∧ VRow (fun k => w0.heap.size ≤ k) 1 intO w'' tv (o.getD rw0).r.tags ∧ Asked W sb a1 a2 c m t0 n0 w'') hB hT hA.run.eng hA.ses h.ok (fun v W' => enter_next1 v (.pointer (some ⟨W.heap.size, 0, none⟩)) (.pointer (some ⟨W.heap.size + 1, 0, none⟩)) (.pointer (some ⟨W.heap.size + 1 + 1, 0, none⟩)) (.pointer (some ⟨W.heap.size + 1 + 1 + 1, 0, none⟩)) W') (fun w' hs' hc' => by
    obtain ⟨G', hR, _, _⟩ := hA.run.ch hc' (fun k hk => by subst hk; exact ⟨h.gs, h.ne, h.old⟩)
    refine (next1_any (1 + 1024 * b + t) (pa, pb) hR h.few (B1.ch hc' (by omega)) (B2.ch hc' (by omega)) (B3.ch hc' (by omega)) (B4.ch hc' (by omega)) (by omega)).mono ?_
    rintro e w'' ⟨he, tv, hr, ha, hv, hc2⟩
    rw [hoc] at he hr ha hv
    refine ⟨code, he, he, tv, hr, ha, hv.mono fun k _ hk => Nat.le_trans hc'.size hk, Blk.ch hs' hc2 (by omega), ?_⟩
    exact ((Ch.of_below _ hb0).trans hc').step hc2 (fun j hj e => by omega)))
  unfold plV
  simp only [hoc]
  clear h hA hB hT
  have HSL := Lib.hid hsl
  have HS0 := Lib.hid (show W.heap.size + 1 + 1 + 1 < w0.heap.size by rw [hw0]; simp)
  have HB0 := Lib.hid hb0
  clear B1 B2 B3 B4 hsl hb0 hoc
  obtain ⟨r0, hr0⟩ : ∃ r, o.getD rw0 = r := ⟨_, rfl⟩
  rw [hr0] at HRD ⊢
  obtain ⟨⟨sa, sb'⟩, ⟨⟨ia, ib⟩, tags, data⟩⟩ := r0
  unfold recV
  simp only at HRD ⊢
  clear hr0
  go_enter Try.func15, Try.ntmps15
  go_wp2_with fail
  rw [← hw0]
  clear hw0
  refine HRD.out.mono ?_
  rintro e w3 ⟨rfl, tv, hr3, ha3, hv3, hA3⟩
  obtain ⟨ta, tcap, rfl, _, _⟩ := hv3.slice
  have HR3 := Lib.hid hr3
  have HP3 := Lib.hid ha3
  have HV3 := Lib.hid hv3
  have HA3 := Lib.hid hA3
  obtain ⟨q1, q2⟩ := hr3.cells
  obtain ⟨q3, q4⟩ := ha3.cells
  have l1 := hr3.lt
  have l2 := ha3.lt
  have n1 : W.heap.size + 1 + 1 ≠ W.heap.size + 1 + 1 + 1 := by omega
  have n2 : W.heap.size + 1 + 1 + 1 ≠ W.heap.size + 1 + 1 := by omega
  clear hr3 ha3 hv3 hA3
  go_wp2_with fail
  go_region
  all_goals
    go_wp2_with fail
    obtain ⟨w', hw', hr, ha, hch, hz⟩ := stored6 HR3.out HP3.out n1 (.int .i64 ia) (.int .i64 ib) (.slice ta tags.length tcap) (.string data) (.int .i64 sa) (.int .i64 sb')
    rw [← hw']
    clear hw'
    obtain ⟨f1, _⟩ := hr.drew.cells
    obtain ⟨f3, _⟩ := ha.drew.cells
    have hs0 := HS0.out
    have hsl := HSL.out
    refine bodyPost_ret (v := .tuple #[.agg #[.int .i64 ia, .int .i64 ib, .slice ta tags.length tcap, .string data], .agg #[.int .i64 sa, .int .i64 sb'], .int .i64 code]) (by simp [results, Try.results15, go_sem, f1, f3]) rfl ?_
    refine ⟨_, rfl, (HV3.out.ch hch.drew (fun k hk e => by omega)).mono fun k _ hk => by omega, Blk.ch HA3.out.ses hch.drew (by omega), HA3.out.ch.step hch.drew (fun j hj e => by omega)⟩
set_option maxRecDepth 100000 in
set_option maxHeartbeats 8000000 in
theorem eprev_any {w : World} {G : Nat → Prop} {W : World} {eb x sb : Nat} {a1 a2 c m t0 n0 : Int} {st : XSt} (b t : Int) (p : Pl) (h : Asks w G W eb x sb a1 a2 c m t0 n0 st) (hB : inB b = true) (hT : inB t = true) :
    Calls Try.prog 19 #[.pointer (some ⟨eb, 0, none⟩), .pointer (some ⟨sb, 0, none⟩), .int .i64 b, .int .i64 t, plV p] W fun e w' => ∃ tv, e = .returned (.tuple #[recV ((prevE st (1 + 1024 * b + t) p).1.getD rw0).r tv, plV ((prevE st (1 + 1024 * b + t) p).1.getD rw0).pl, .int .i64 (prevE st (1 + 1024 * b + t) p).2]) ∧ VRow (fun k => W.heap.size ≤ k) 1 intO w' tv ((prevE st (1 + 1024 * b + t) p).1.getD rw0).r.tags ∧ Asked W sb a1 a2 c m t0 n0 w' := by
  obtain ⟨pa, pb⟩ := p
  have hb0 : Below W.heap.size W ((((W.alloc (.cells #[.pointer (some ⟨eb, 0, none⟩)] 27)).alloc (.cells #[.int .i64 pa, .int .i64 pb] 39)).alloc (.cells #[.int .i64 0, .int .i64 0, .slice none 0 0, .string ⟨#[]⟩] 26)).alloc (.cells #[.int .i64 0, .int .i64 0] 39)) := Ch.below (by (repeat (first | with_reducible assumption | with_reducible exact Ch.refl _ _ | with_reducible refine Ch.drew ?_ | with_reducible refine Ch.alloc ?_ _ | (with_reducible refine Ch.set' ?_ ?_; focus (first | (right; rfl; done) | (left; simp; done) | (left; simp; omega) | (left; omega) | (right; simp; done) | (right; simp; omega))))))
  have B1 := (((Blk.new W #[.pointer (some ⟨eb, 0, none⟩)] 27).alloc (.cells #[.int .i64 pa, .int .i64 pb] 39)).alloc (.cells #[.int .i64 0, .int .i64 0, .slice none 0 0, .string ⟨#[]⟩] 26)).alloc (.cells #[.int .i64 0, .int .i64 0] 39)
  have B2 := ((Blk.new (W.alloc (.cells #[.pointer (some ⟨eb, 0, none⟩)] 27)) #[.int .i64 pa, .int .i64 pb] 39).alloc (.cells #[.int .i64 0, .int .i64 0, .slice none 0 0, .string ⟨#[]⟩] 26)).alloc (.cells #[.int .i64 0, .int .i64 0] 39)
  have B3 := (Blk.new ((W.alloc (.cells #[.pointer (some ⟨eb, 0, none⟩)] 27)).alloc (.cells #[.int .i64 pa, .int .i64 pb] 39)) #[.int .i64 0, .int .i64 0, .slice none 0 0, .string ⟨#[]⟩] 26).alloc (.cells #[.int .i64 0, .int .i64 0] 39)
  have B4 := Blk.new (((W.alloc (.cells #[.pointer (some ⟨eb, 0, none⟩)] 27)).alloc (.cells #[.int .i64 pa, .int .i64 pb] 39)).alloc (.cells #[.int .i64 0, .int .i64 0, .slice none 0 0, .string ⟨#[]⟩] 26)) #[.int .i64 0, .int .i64 0] 39
  simp only [World.size_alloc] at B2 B3 B4
  obtain ⟨w0, hw0⟩ : ∃ w0, w0 = ((((W.alloc (.cells #[.pointer (some ⟨eb, 0, none⟩)] 27)).alloc (.cells #[.int .i64 pa, .int .i64 pb] 39)).alloc (.cells #[.int .i64 0, .int .i64 0, .slice none 0 0, .string ⟨#[]⟩] 26)).alloc (.cells #[.int .i64 0, .int .i64 0] 39)) := ⟨_, rfl⟩
  rw [← hw0] at hb0 B1 B2 B3 B4
  have hA := h.below hb0
  have hsl := Blk.lt h.ses
  obtain ⟨⟨o, code⟩, hoc⟩ : ∃ q, prevE st (1 + 1024 * b + t) (pa, pb) = q := ⟨_, rfl⟩
  have HRD := Lib.hid (reads_ok (R := fun e w'' => e = .returned (.int .i64 code) ∧ ∃ tv, Blk w'' (W.heap.size + 1 + 1) #[.int .i64 (o.getD rw0).r.id.1, .int .i64 (o.getD rw0).r.id.2, tv, .string (o.getD rw0).r.data] 26 ∧ Blk w'' (W.heap.size + 1 + 1 + 1) #[.int .i64 (o.getD rw0).pl.1, .int .i64 (o.getD rw0).pl.2] 39 ∧ VRow (fun k => w0.heap.size ≤ k) 1 intO w'' tv (o.getD rw0).r.tags ∧ Asked W sb a1 a2 c m t0 n0 w'') hB hT hA.run.eng hA.ses h.ok (fun v W' => enter_prev1 v (.pointer (some ⟨W.heap.size, 0, none⟩)) (.pointer (some ⟨W.heap.size + 1, 0, none⟩)) (.pointer (some ⟨W.heap.size + 1 + 1, 0, none⟩)) (.pointer (some ⟨W.heap.size + 1 + 1 + 1, 0, none⟩)) W') (fun w' hs' hc' => by
    obtain ⟨G', hR, _, _⟩ := hA.run.ch hc' (fun k hk => by subst hk; exact ⟨h.gs, h.ne, h.old⟩)
    refine (prev1_any (1 + 1024 * b + t) (pa, pb) hR h.few (B1.ch hc' (by omega)) (B2.ch hc' (by omega)) (B3.ch hc' (by omega)) (B4.ch hc' (by omega)) (by omega)).mono ?_
    rintro e w'' ⟨he, tv, hr, ha, hv, hc2⟩
    rw [hoc] at he hr ha hv
    refine ⟨code, he, he, tv, hr, ha, hv.mono fun k _ hk => Nat.le_trans hc'.size hk, Blk.ch hs' hc2 (by omega), ?_⟩
    exact ((Ch.of_below _ hb0).trans hc').step hc2 (fun j hj e => by omega)))
  unfold plV
  simp only [hoc]
  clear h hA hB hT
  have HSL := Lib.hid hsl
  have HS0 := Lib.hid (show W.heap.size + 1 + 1 + 1 < w0.heap.size by rw [hw0]; simp)
  have HB0 := Lib.hid hb0
  clear B1 B2 B3 B4 hsl hb0 hoc
  obtain ⟨r0, hr0⟩ : ∃ r, o.getD rw0 = r := ⟨_, rfl⟩
  rw [hr0] at HRD ⊢
  obtain ⟨⟨sa, sb'⟩, ⟨⟨ia, ib⟩, tags, data⟩⟩ := r0
  unfold recV
  simp only at HRD ⊢
  clear hr0
  go_enter Try.func19, Try.ntmps19
  go_wp2_with fail
  rw [← hw0]
  clear hw0
  refine HRD.out.mono ?_
  rintro e w3 ⟨rfl, tv, hr3, ha3, hv3, hA3⟩
  obtain ⟨ta, tcap, rfl, _, _⟩ := hv3.slice
  have HR3 := Lib.hid hr3
  have HP3 := Lib.hid ha3
  have HV3 := Lib.hid hv3
  have HA3 := Lib.hid hA3
  obtain ⟨q1, q2⟩ := hr3.cells
  obtain ⟨q3, q4⟩ := ha3.cells
  have l1 := hr3.lt
  have l2 := ha3.lt
  have n1 : W.heap.size + 1 + 1 ≠ W.heap.size + 1 + 1 + 1 := by omega
  have n2 : W.heap.size + 1 + 1 + 1 ≠ W.heap.size + 1 + 1 := by omega
  clear hr3 ha3 hv3 hA3
  go_wp2_with fail
  go_region
  all_goals
    go_wp2_with fail
    obtain ⟨w', hw', hr, ha, hch, hz⟩ := stored6 HR3.out HP3.out n1 (.int .i64 ia) (.int .i64 ib) (.slice ta tags.length tcap) (.string data) (.int .i64 sa) (.int .i64 sb')
    rw [← hw']
    clear hw'
    obtain ⟨f1, _⟩ := hr.drew.cells
    obtain ⟨f3, _⟩ := ha.drew.cells
    have hs0 := HS0.out
    have hsl := HSL.out
    refine bodyPost_ret (v := .tuple #[.agg #[.int .i64 ia, .int .i64 ib, .slice ta tags.length tcap, .string data], .agg #[.int .i64 sa, .int .i64 sb'], .int .i64 code]) (by simp [results, Try.results19, go_sem, f1, f3]) rfl ?_
    refine ⟨_, rfl, (HV3.out.ch hch.drew (fun k hk e => by omega)).mono fun k _ hk => by omega, Blk.ch HA3.out.ses hch.drew (by omega), HA3.out.ch.step hch.drew (fun j hj e => by omega)⟩
set_option maxRecDepth 100000 in
set_option maxHeartbeats 8000000 in
theorem enext_bad {W : World} {eb sb : Nat} (b t : Int) (p : Pl) (h : (tagD b t).2 = false) :
    Calls Try.prog 15 #[.pointer (some ⟨eb, 0, none⟩), .pointer (some ⟨sb, 0, none⟩), .int .i64 b, .int .i64 t, plV p] W fun e w' => e = .returned (.tuple #[recV rc0 (.slice none 0 0), plV (0, 0), .int .i64 1]) ∧ Below W.heap.size W w' := by
  obtain ⟨pa, pb⟩ := p
  have HRD := Lib.hid (fun v w => reads_bad (.pointer (some ⟨eb, 0, none⟩)) (.pointer (some ⟨sb, 0, none⟩)) b t v w h ⟨_, rfl⟩ ⟨_, rfl⟩)
  unfold plV recV rc0
  simp only
  clear h
  go_enter Try.func15, Try.ntmps15
  go_wp2_with fail
  refine (HRD.out _ _).mono ?_
  rintro e w3 ⟨rfl, hw⟩
  rw [hw]
  clear hw
  go_wp2_with fail
  go_region
  all_goals
    go_wp2_with fail
    refine bodyPost_ret (v := .tuple #[.agg #[.int .i64 0, .int .i64 0, .slice none 0 0, .string ⟨#[]⟩], .agg #[.int .i64 0, .int .i64 0], .int .i64 1]) (by simp [results, Try.results15, go_sem]) rfl ?_
    exact ⟨rfl, Ch.below (by (repeat (first | with_reducible assumption | with_reducible exact Ch.refl _ _ | with_reducible refine Ch.drew ?_ | with_reducible refine Ch.alloc ?_ _ | (with_reducible refine Ch.set' ?_ ?_; focus (first | (right; rfl; done) | (left; simp; done) | (left; simp; omega) | (left; omega) | (right; simp; done) | (right; simp; omega))))))⟩
set_option maxRecDepth 100000 in
set_option maxHeartbeats 8000000 in
theorem eprev_bad {W : World} {eb sb : Nat} (b t : Int) (p : Pl) (h : (tagD b t).2 = false) :
    Calls Try.prog 19 #[.pointer (some ⟨eb, 0, none⟩), .pointer (some ⟨sb, 0, none⟩), .int .i64 b, .int .i64 t, plV p] W fun e w' => e = .returned (.tuple #[recV rc0 (.slice none 0 0), plV (0, 0), .int .i64 1]) ∧ Below W.heap.size W w' := by
  obtain ⟨pa, pb⟩ := p
  have HRD := Lib.hid (fun v w => reads_bad (.pointer (some ⟨eb, 0, none⟩)) (.pointer (some ⟨sb, 0, none⟩)) b t v w h ⟨_, rfl⟩ ⟨_, rfl⟩)
  unfold plV recV rc0
  simp only
  clear h
  go_enter Try.func19, Try.ntmps19
  go_wp2_with fail
  refine (HRD.out _ _).mono ?_
  rintro e w3 ⟨rfl, hw⟩
  rw [hw]
  clear hw
  go_wp2_with fail
  go_region
  all_goals
    go_wp2_with fail
    refine bodyPost_ret (v := .tuple #[.agg #[.int .i64 0, .int .i64 0, .slice none 0 0, .string ⟨#[]⟩], .agg #[.int .i64 0, .int .i64 0], .int .i64 1]) (by simp [results, Try.results19, go_sem]) rfl ?_
    exact ⟨rfl, Ch.below (by (repeat (first | with_reducible assumption | with_reducible exact Ch.refl _ _ | with_reducible refine Ch.drew ?_ | with_reducible refine Ch.alloc ?_ _ | (with_reducible refine Ch.set' ?_ ?_; focus (first | (right; rfl; done) | (left; simp; done) | (left; simp; omega) | (left; omega) | (right; simp; done) | (right; simp; omega))))))⟩
end Go.Proofs.Ytpdibjaeopcimaa
