/- book's laws: New, none, gone, reads; a session of one's own. -/
import Derived.Test.YtpdibjaeopcimaaKd
import Derived.Test.YtpdibjaeopcimaaSesC
set_option linter.unusedVariables false
set_option linter.unusedSimpArgs false
namespace Go.Proofs.Ytpdibjaeopcimaa
open Go.RowKit

/-- What a call that began at w did so far: it holds an engine. -/
structure ERun (w : World) (G : Nat → Prop) (w1 : World) (e x : Nat) (t n : Int) (st : XSt) : Prop where
  run : Run w G w1 x st
  eng : Blk w1 e #[.pointer (some ⟨x, 0, none⟩), .int .i64 t, .int .i64 n] 73
  ge : G e
  new : w.heap.size ≤ e
theorem ERun.below {w : World} {G : Nat → Prop} {w1 w2 : World} {e x : Nat} {t n : Int} {st : XSt} (h : ERun w G w1 e x t n st) (hb : Below w1.heap.size w1 w2) : ERun w G w2 e x t n st := ⟨h.run.below hb, h.eng.below hb, h.ge, h.new⟩
theorem ERun.lt {w : World} {G : Nat → Prop} {w1 : World} {e x : Nat} {t n : Int} {st : XSt} (h : ERun w G w1 e x t n st) {k : Nat} (hk : G k) : k < w1.heap.size := h.run.lt hk
/-- .. while some blocks that are not the engine's were changed. -/
theorem ERun.ch {w : World} {G S : Nat → Prop} {w1 w2 : World} {e x : Nat} {t n : Int} {st : XSt} (h : ERun w G w1 e x t n st) (hc : Ch S w1 w2) (hS : ∀ k, S k → G k ∧ k ≠ e ∧ w.heap.size ≤ k) :
    ∃ G', ERun w G' w2 e x t n st ∧ (∀ k, G k → G' k) ∧ (∀ k, w1.heap.size ≤ k → k < w2.heap.size → G' k) := by
  refine ⟨_, ⟨⟨h.run.ix.ch hc (fun k hk => (hS k hk).1), h.run.good, fun k hk => .inl (h.run.old k hk), Ch.below ((Ch.of_below (fun _ => False) h.run.ch).step hc (fun j hj e => by have := (hS j e).2.2; omega))⟩, h.eng.ch hc (fun e => (hS _ e).2.1 rfl), .inl h.ge, h.new⟩, fun k hk => .inl hk, fun k h1 h2 => .inr ⟨h1, h2⟩⟩
theorem enew_any (w : World) : Calls Try.prog 8 #[] w fun e w' => ∃ (eb x : Nat) (G : Nat → Prop), e = .returned (.pointer (some ⟨eb, 0, none⟩)) ∧ ERun w G w' eb x 0 0 xst0 := by
  have HN := Lib.hid (xnew_any w)
  go_enter Try.func8, Try.ntmps8
  go_wp2_with fail
  refine HN.out.mono ?_
  intro e w1 hpost
  obtain ⟨x, G0, rfl, R1⟩ := Run.new hpost
  clear HN hpost
  obtain ⟨G1, R2, _, hn⟩ := R1.grow (below1 w1 (.cells #[.pointer (some ⟨x, 0, none⟩), .int .i64 0, .int .i64 0] 73))
  have R := Lib.hid (ERun.mk R2 (Blk.new w1 #[.pointer (some ⟨x, 0, none⟩), .int .i64 0, .int .i64 0] 73) (hn w1.heap.size (Nat.le_refl _) (by simp)) R1.ch.size)
  clear R1 R2 hn
  go_wp2_with fail
  go_ret
  exact ⟨_, _, _, rfl, R.out⟩
theorem none_any (b : Bool) (w : World) : Calls Try.prog 39 #[.bool b] w fun e w' => e = .returned (.int .i64 (if b then 0 else 190)) ∧ w' = w := by
  cases b with
  | false =>
    go_enter Try.func39, Try.ntmps39
    go_wp2_with fail
    go_ret
    exact ⟨rfl, rfl⟩
  | true =>
    go_enter Try.func39, Try.ntmps39
    go_wp2_with fail
    go_ret
    exact ⟨rfl, rfl⟩
theorem mine_any (c : Int) (w : World) (h0 : 0 ≤ c) (h1 : c ≤ 1099511627776) : Calls Try.prog 9 #[.int .i64 c] w fun e w' => e = .returned (.pointer (some ⟨w.heap.size, 0, none⟩)) ∧ Sn.Ses w' w.heap.size c 0 0 0 ∧ Below w.heap.size w w' := by
  have HN := Lib.hid (Sn.new_ok c w h0 h1)
  clear h0 h1
  go_enter Try.func9, Try.ntmps9
  go_wp2_with fail
  refine HN.out.mono ?_
  rintro e w1 ⟨rfl, hs, hb⟩
  have HS := Lib.hid hs
  have HB := Lib.hid hb
  clear hs hb
  go_wp2_with fail
  go_ret
  exact ⟨rfl, HS.out, HB.out⟩
/-- Was a tag trimmed up to a place, or behind it? -/
def goneX (st : XSt) (t : Int) (a : Pl) : Bool := (trimV st t).2 && !lessP (trimV st t).1 a
set_option maxRecDepth 100000 in
theorem gone_any {w : World} {G : Nat → Prop} {w1 : World} {eb x : Nat} {t n : Int} {st : XSt} (tag : Int) (a : Pl) (h : ERun w G w1 eb x t n st) :
    Calls Try.prog 43 #[.pointer (some ⟨eb, 0, none⟩), .int .i64 tag, plV a] w1 fun e w' => e = .returned (.bool (goneX st tag a)) ∧ Below w1.heap.size w1 w' := by
  obtain ⟨aa, ab⟩ := a
  have hb0 := below1 w1 (.cells #[.int .i64 aa, .int .i64 ab] 39)
  have HA := Lib.hid (Blk.new w1 #[.int .i64 aa, .int .i64 ab] 39)
  have HT := xtrimmed_any tag _ (h.run.below hb0).ix
  obtain ⟨q1, q2⟩ := h.eng.cells
  have l1 := h.eng.lt
  obtain ⟨⟨⟨ua, ub⟩, is⟩, htv⟩ : ∃ q, trimV st tag = q := ⟨_, rfl⟩
  have HG := Lib.hid (show goneX st tag (aa, ab) = (is && !lessP (ua, ub) (aa, ab)) by unfold goneX; rw [htv])
  rw [htv] at HT
  unfold plV at HT
  obtain ⟨w0, hw0⟩ : ∃ w0, w0 = w1.alloc (.cells #[.int .i64 aa, .int .i64 ab] 39) := ⟨_, rfl⟩
  rw [← hw0] at HT hb0 HA
  have HT := Lib.hid HT
  have HB0 := Lib.hid hb0
  unfold plV
  clear h hb0 htv
  go_enter Try.func43, Try.ntmps43
  go_wp2_with fail
  rw [← hw0]
  clear hw0
  refine HT.out.mono ?_
  rintro e w2 ⟨rfl, hb2⟩
  have hba := below1 w2 (.cells #[.int .i64 ua, .int .i64 ub] 39)
  have HB3 := Lib.hid (HB0.out.trans ((hb2.trans (hba.mono hb2.size)).mono HB0.out.size))
  have HU := Lib.hid (Blk.new w2 #[.int .i64 ua, .int .i64 ub] 39)
  have HA3 := Lib.hid (HA.out.below (hb2.trans (hba.mono hb2.size)))
  obtain ⟨w3, hw3⟩ : ∃ w3, w3 = w2.alloc (.cells #[.int .i64 ua, .int .i64 ub] 39) := ⟨_, rfl⟩
  rw [← hw3] at HB3 HU HA3
  have HL := Lib.hid (less_any (ua, ub) (aa, ab) w3)
  obtain ⟨p1, p2⟩ := (HA.out.below hb2).cells
  have m1 := (HA.out.below hb2).lt
  unfold plV at HL
  clear hb2 hba HT q1 q2 l1
  cases is with
  | false =>
    go_wp2_with fail
    rw [← hw3]
    go_ret
    exact ⟨by rw [HG.out]; rfl, HB3.out⟩
  | true =>
    go_wp2_with fail
    rw [← hw3]
    clear hw3
    refine HL.out.mono ?_
    rintro e w4 ⟨rfl, hb4⟩
    have HB4 := Lib.hid (HB3.out.trans (hb4.mono HB3.out.size))
    clear hb4
    go_wp2_with fail
    go_ret
    exact ⟨by rw [HG.out]; rfl, HB4.out⟩
theorem reads_bad (a1 a2 : Value) (b t : Int) (fv : Value) (w : World) (h : (tagD b t).2 = false) (ha : ∃ p, a1 = .pointer p) (hb : ∃ q, a2 = .pointer (some q)) :
    Calls Try.prog 36 #[a1, a2, .int .i64 b, .int .i64 t, fv] w fun e w' => e = .returned (.int .i64 1) ∧ w' = w := by
  obtain ⟨p, rfl⟩ := ha
  obtain ⟨q, rfl⟩ := hb
  have HT := tag_any b t w
  rw [h] at HT
  have HT := Lib.hid HT
  clear h
  go_enter Try.func36, Try.ntmps36
  go_wp2_with fail
  refine HT.out.mono ?_
  rintro e w1 ⟨rfl, hw⟩
  rw [hw]
  clear hw
  go_wp2_with fail
  go_ret
  exact ⟨rfl, rfl⟩
set_option maxRecDepth 100000 in
theorem reads_ok {R : Ending → World → Prop} {eb sb x : Nat} {b t a1 a2 c m t0 n0 : Int} {k : Nat} {caps : Array Value} {w : World} (hB : inB b = true) (hT : inB t = true) (he : Blk w eb #[.pointer (some ⟨x, 0, none⟩), .int .i64 a1, .int .i64 a2] 73) (hs : Sn.Ses w sb c m t0 n0) (hr : Sn.readE t0 n0 a1 a2 = 0)
    (henter : ∀ (v : Value) (W : World), (callFunc k (#[v] ++ caps)).run Try.prog W = .ok (.enter k (#[v] ++ caps)) W)
    (hask : ∀ w', Sn.Ses w' sb c m (Sn.readT t0 n0 a1 a2) (Sn.readN t0 n0 a1 a2) → Ch (· = sb) w w' → Calls Try.prog k (#[.int .i64 (1 + 1024 * b + t)] ++ caps) w' fun e w'' => ∃ r, e = .returned (.int .i64 r) ∧ R e w'') :
    Calls Try.prog 36 #[.pointer (some ⟨eb, 0, none⟩), .pointer (some ⟨sb, 0, none⟩), .int .i64 b, .int .i64 t, .func (.func k) #[] caps] w R := by
  have HT := tag_any b t w
  rw [tagD_t hB hT] at HT
  have HT := Lib.hid HT
  have HR := Sn.read_any sb c m t0 n0 a1 a2 w hs
  rw [hr] at HR
  have HR := Lib.hid HR
  have HASK := Lib.hid hask
  obtain ⟨q1, q2⟩ := he.cells
  have l1 := he.lt
  clear he hs hr hB hT hask
  go_enter Try.func36, Try.ntmps36
  go_wp2_with fail
  refine HT.out.mono ?_
  rintro e w1 ⟨rfl, hw⟩
  rw [hw]
  clear hw
  go_wp2_with fail
  refine HR.out.mono ?_
  rintro e w2 ⟨rfl, hs2, hc2⟩
  have HA := Lib.hid (HASK.out w2 hs2 hc2)
  clear hs2 hc2 q1 q2 l1
  go_wp2_with fail
  refine HA.out.mono ?_
  rintro e w3 ⟨r, rfl, hr⟩
  have HR3 := Lib.hid hr
  clear hr
  go_wp2_with fail
  exact HR3.out
end Go.Proofs.Ytpdibjaeopcimaa
