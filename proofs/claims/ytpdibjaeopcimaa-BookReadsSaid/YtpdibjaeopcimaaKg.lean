/- book's laws: what Tail asks; Tail. -/
import Derived.Test.YtpdibjaeopcimaaKe
set_option linter.unusedVariables false
set_option linter.unusedSimpArgs false
namespace Go.Proofs.Ytpdibjaeopcimaa
open Go.RowKit

theorem enter_tail1 (v a b : Value) (W : World) : (callFunc 40 (#[v] ++ #[a, b])).run Try.prog W = .ok (.enter 40 (#[v] ++ #[a, b])) W := by kernel_rfl
set_option maxRecDepth 100000 in
set_option maxHeartbeats 8000000 in
theorem tail1_any {w : World} {G : Nat → Prop} {W : World} {eb x be ba : Nat} {t n : Int} {st : XSt} (tag : Int) (h : ERun w G W eb x t n st) (hm : st.rows.length ≤ 4194304) (h1 : Blk W be #[.pointer (some ⟨eb, 0, none⟩)] 27)
    (h4 : Blk W ba #[.int .i64 0, .int .i64 0] 39) :
    Calls Try.prog 40 #[.int .i64 tag, .pointer (some ⟨be, 0, none⟩), .pointer (some ⟨ba, 0, none⟩)] W fun e w' => e = .returned (.int .i64 (if (tailX st tag).isSome then 0 else 190)) ∧ Blk w' ba #[.int .i64 ((tailX st tag).getD rw0).pl.1, .int .i64 ((tailX st tag).getD rw0).pl.2] 39 ∧ Ch (fun k => k = ba) W w' := by
  have HX := xtail_any tag W h.run.ix h.run.good hm
  obtain ⟨⟨sa, sb⟩, hr0⟩ : ∃ r, ((tailX st tag).getD rw0).pl = r := ⟨_, rfl⟩
  obtain ⟨bo, hbo⟩ : ∃ b, (tailX st tag).isSome = b := ⟨_, rfl⟩
  unfold tailV at HX
  rw [hr0, hbo] at HX
  rw [hr0, hbo]
  unfold plV at HX
  simp only
  have HN := fun W => none_any bo W
  obtain ⟨code, hc⟩ : ∃ c : Int, (if bo = true then 0 else 190) = c := ⟨_, rfl⟩
  simp only [hc] at HN ⊢
  have HN := Lib.hid HN
  have HX := Lib.hid HX
  have H4 := Lib.hid h4
  obtain ⟨q1, q2⟩ := h1.cells
  obtain ⟨q3, q4⟩ := h.eng.cells
  have l1 := h1.lt
  have l2 := h.eng.lt
  clear h h1 h4 hr0 hbo hc
  go_enter Try.func40, Try.ntmps40
  go_wp2_with fail
  refine HX.out.mono ?_
  rintro e w1 ⟨rfl, hb1⟩
  have HB1 := Lib.hid hb1
  have hA := H4.out.below hb1
  have HA := Lib.hid hA
  obtain ⟨z1, z2⟩ := hA.cells
  have m1 := hA.lt
  clear hb1 hA q1 q2 q3 q4 l1 l2
  go_wp2_with fail
  refine (HN.out _).mono ?_
  rintro e w2 ⟨rfl, hw⟩
  rw [hw]
  clear hw
  go_wp2_with fail
  go_ret
  refine ⟨rfl, ((HA.out.set 0 (.int .i64 sa)).set 1 (.int .i64 sb)).alloc _, ?_⟩
  exact (((Ch.of_below (fun k => k = ba) HB1.out).set (p := ⟨ba, 0, none⟩) (.inr rfl) _).set (p := ⟨ba, 1, none⟩) (.inr rfl) _).alloc _
/-- What a call that reads is given. -/
structure Asks (w : World) (G : Nat → Prop) (W : World) (eb x sb : Nat) (a1 a2 c m t0 n0 : Int) (st : XSt) : Prop where
  run : ERun w G W eb x a1 a2 st
  ses : Sn.Ses W sb c m t0 n0
  gs : G sb
  ne : sb ≠ eb
  old : w.heap.size ≤ sb
  ok : Sn.readE t0 n0 a1 a2 = 0
  few : st.rows.length ≤ 4194304
/-- What it leaves. -/
structure Asked (W : World) (sb : Nat) (a1 a2 c m t0 n0 : Int) (w' : World) : Prop where
  ses : Sn.Ses w' sb c m (Sn.readT t0 n0 a1 a2) (Sn.readN t0 n0 a1 a2)
  ch : Ch (· = sb) W w'
theorem Asks.below {w : World} {G : Nat → Prop} {W W' : World} {eb x sb : Nat} {a1 a2 c m t0 n0 : Int} {st : XSt} (h : Asks w G W eb x sb a1 a2 c m t0 n0 st) (hb : Below W.heap.size W W') : Asks w G W' eb x sb a1 a2 c m t0 n0 st :=
  ⟨h.run.below hb, Blk.below h.ses hb, h.gs, h.ne, h.old, h.ok, h.few⟩
set_option maxRecDepth 100000 in
set_option maxHeartbeats 8000000 in
theorem etail_any {w : World} {G : Nat → Prop} {W : World} {eb x sb : Nat} {a1 a2 c m t0 n0 : Int} {st : XSt} (b t : Int) (h : Asks w G W eb x sb a1 a2 c m t0 n0 st) (hB : inB b = true) (hT : inB t = true) :
    Calls Try.prog 14 #[.pointer (some ⟨eb, 0, none⟩), .pointer (some ⟨sb, 0, none⟩), .int .i64 b, .int .i64 t] W fun e w' => e = .returned (.tuple #[plV ((tailX st (1 + 1024 * b + t)).getD rw0).pl, .int .i64 (if (tailX st (1 + 1024 * b + t)).isSome then 0 else 190)]) ∧ Asked W sb a1 a2 c m t0 n0 w' := by
  have hb0 := below2 W (.cells #[.pointer (some ⟨eb, 0, none⟩)] 27) (.cells #[.int .i64 0, .int .i64 0] 39)
  have B1 := (Blk.new W #[.pointer (some ⟨eb, 0, none⟩)] 27).alloc (.cells #[.int .i64 0, .int .i64 0] 39)
  have B2 := Blk.new (W.alloc (.cells #[.pointer (some ⟨eb, 0, none⟩)] 27)) #[.int .i64 0, .int .i64 0] 39
  simp only [World.size_alloc] at B2
  obtain ⟨w0, hw0⟩ : ∃ w0, w0 = (W.alloc (.cells #[.pointer (some ⟨eb, 0, none⟩)] 27)).alloc (.cells #[.int .i64 0, .int .i64 0] 39) := ⟨_, rfl⟩
  rw [← hw0] at hb0 B1 B2
  have hA := h.below hb0
  have hsl := Blk.lt h.ses
  obtain ⟨code, hc⟩ : ∃ c : Int, (if (tailX st (1 + 1024 * b + t)).isSome = true then 0 else 190) = c := ⟨_, rfl⟩
  obtain ⟨⟨sa, sb'⟩, hpl⟩ : ∃ p, ((tailX st (1 + 1024 * b + t)).getD rw0).pl = p := ⟨_, rfl⟩
  have HRD := Lib.hid (reads_ok (R := fun e w'' => e = .returned (.int .i64 code) ∧ Blk w'' (W.heap.size + 1) #[.int .i64 sa, .int .i64 sb'] 39 ∧ Asked W sb a1 a2 c m t0 n0 w'') hB hT hA.run.eng hA.ses h.ok (fun v W' => enter_tail1 v (.pointer (some ⟨W.heap.size, 0, none⟩)) (.pointer (some ⟨W.heap.size + 1, 0, none⟩)) W') (fun w' hs' hc' => by
    obtain ⟨G', hR, _, _⟩ := hA.run.ch hc' (fun k hk => by subst hk; exact ⟨h.gs, h.ne, h.old⟩)
    refine (tail1_any (1 + 1024 * b + t) hR h.few (B1.ch hc' (by omega)) (B2.ch hc' (by omega))).mono ?_
    rintro e w'' ⟨he, hb, hc2⟩
    rw [hc] at he
    rw [hpl] at hb
    refine ⟨code, he, he, hb, Blk.ch hs' hc2 (by omega), ?_⟩
    exact ((Ch.of_below _ hb0).trans hc').step hc2 (fun j hj e => by omega)))
  unfold plV
  simp only [hc, hpl]
  have HSL := Lib.hid hsl
  clear h hA hB hT hc hpl B1 B2 hsl
  have HB0 := Lib.hid hb0
  clear hb0
  go_enter Try.func14, Try.ntmps14
  go_wp2_with fail
  rw [← hw0]
  clear hw0
  refine HRD.out.mono ?_
  rintro e w3 ⟨rfl, hb3, hA3⟩
  have H3 := Lib.hid hb3
  have HA3 := Lib.hid hA3
  obtain ⟨q1, q2⟩ := hb3.cells
  have l1 := hb3.lt
  clear hb3 hA3
  go_wp2_with fail
  obtain ⟨f1, _⟩ := ((H3.out.set 0 (.int .i64 sa)).set 1 (.int .i64 sb')).cells
  refine bodyPost_ret (v := .tuple #[.agg #[.int .i64 sa, .int .i64 sb'], .int .i64 code]) (by simp [results, Try.results14, go_sem, f1]) rfl ⟨rfl, ?_⟩
  have hcs : Ch (fun k => k = W.heap.size + 1) w3 _ := (((Ch.refl (fun k => k = W.heap.size + 1) w3).set (p := ⟨W.heap.size + 1, 0, none⟩) (.inr rfl) (.int .i64 sa)).set (p := ⟨W.heap.size + 1, 1, none⟩) (.inr rfl) (.int .i64 sb'))
  have hsl := HSL.out
  exact ⟨Blk.ch HA3.out.ses hcs (by omega), HA3.out.ch.step hcs (fun j hj e => by omega)⟩
end Go.Proofs.Ytpdibjaeopcimaa
