/- alive of the pack laws answers true. -/
import Derived.Test.YtlombcclglffgaaPkX
set_option linter.unusedVariables false
set_option linter.unusedSimpArgs false
namespace Go.Proofs.Ytlombcclglffgaa
open Go.RowKit

theorem NumEPost.at {r g : Nat} {bs : List Nat} {k : Nat} {e limit : Int} {w w' : World} {x : Ending} (h : NumEPost r g bs k e limit w x w') {v c : Nat} {e2 : Int} (hq : numE e limit (bs.drop k) = (v, c, e2)) :
    x = .returned (.int .i64 (v : Nat)) ∧ Rd w' r g bs (k + c) e2 ∧ Ch (· = r) w w' := by
  unfold NumEPost at h
  rw [hq] at h
  exact h
theorem TextEPost.at {r g : Nat} {bs : List Nat} {k : Nat} {e limit : Int} {w w' : World} {x : Ending} (h : TextEPost r g bs k e limit w x w') {t : List Nat} {c : Nat} {e2 : Int} (hq : textE e limit (bs.drop k) = (t, c, e2)) :
    x = .returned (.string (bS t)) ∧ Rd w' r g bs (k + c) e2 ∧ Ch (· = r) w w' := by
  unfold TextEPost at h
  rw [hq] at h
  exact h

/-- 'string' of a row of bytes. -/
theorem brow_string {w : World} {base : Nat} {v : Value} {bs : List Nat} (h : BRow w base v bs) (hb : ∀ b ∈ bs, b < 256) : (convert 22 9 v).run Try.prog w = .ok (.string (bS bs)) w := by
  rcases h.2 with ⟨hv, h0⟩ | ⟨g, cap, cur, hv, hg, hh, hn, hc, hsz, htake⟩
  · have : bs = [] := List.length_eq_zero_iff.1 h0
    subst this
    subst hv
    exact Lib.run_convert_nil_bytes (P := Try.prog) w 22 9 5 0 Try.underlying22 Try.underlying5 Try.underlying9
  · subst hv
    have hl : (bs.map UInt8.ofNat).length = bs.length := List.length_map _
    have := run_convert_bytes_back (P := Try.prog) w 22 9 5 ⟨g, 0, none⟩ cap (bs.map UInt8.ofNat) Try.underlying22 Try.underlying5 Try.underlying9 (by
      intro j hj
      rw [hl] at hj
      rw [h.cells (g := g) rfl j (by8 bs[j]) (by simp [hj])]
      have h2 := hb _ (List.getElem_mem hj)
      simp [by8, Nat.mod_eq_of_lt h2])
    rw [hl] at this
    exact this

theorem BRow.nil (w : World) (base : Nat) : BRow w base (.slice none 0 0) [] := World.ownsRow_nil _ _ _ _
theorem BRow.lt {w : World} {base : Nat} {v : Value} {bs : List Nat} (h : BRow w base v bs) {g : Nat} (e : v.ownBlock = some g) : base ≤ g ∧ g < w.heap.size := by
  rcases h.2 with ⟨h2, _⟩ | ⟨g3, cap3, cur3, hv3, hg3, hh, _⟩
  · rw [h2] at e; simp [Value.ownBlock] at e
  · rw [hv3] at e
    obtain rfl : g3 = g := by simpa [Value.ownBlock] using e
    exact ⟨hg3, lt_of_block hh⟩
/-- A row behind a step that changes it alone: nothing old. -/
theorem Ch.own {w0 w w1 : World} {base : Nat} {v : Value} {bs : List Nat} (h : BRow w base v bs) (hb : w0.heap.size ≤ base) (c : Ch (fun _ => False) w0 w) (c2 : Ch (fun k => v.ownBlock = some k) w w1) : Ch (fun _ => False) w0 w1 :=
  c.step c2 (fun k hk e => by have := (h.lt e).1; omega)

theorem Blk.row {w : World} {b t : Nat} {bs : List Nat} (h : Blk w b (bs.map by8).toArray t) : RowAt w (some ⟨b, 0, none⟩) 1 b1 bs := by
  intro i x hx
  refine ⟨b, 0, rfl, h.lt, fun j v hj => ?_⟩
  match j, hj with
  | 0, hj =>
    rw [h.cell]
    simp [hx]
    simpa [b1] using hj
  | j + 1, hj => simp [b1] at hj
set_option maxRecDepth 100000 in
theorem err_any (r g : Nat) (bs : List Nat) (k : Nat) (e : Int) (w : World) (h : Rd w r g bs k e) :
    Calls Try.prog 15 #[.pointer (some ⟨r, 0, none⟩)] w fun x w' => x = .returned (.int .i64 e) ∧ Below w.heap.size w w' := by
  obtain ⟨o, hb, ho⟩ := h.box
  obtain ⟨q1, q2⟩ := hb.cells
  clear h hb ho
  go_enter Try.func15, Try.ntmps15
  go_wp2
  go_ret
  exact ⟨rfl, Ch.below (by (repeat (first | with_reducible assumption | with_reducible exact Ch.refl _ _ | with_reducible refine Ch.drew ?_ | with_reducible refine Ch.alloc ?_ _ | (with_reducible refine Ch.set' ?_ ?_; focus (first | (right; rfl; done) | (left; simp; done) | (left; simp; omega) | (left; omega) | (right; simp; done) | (right; simp; omega))))))⟩

attribute [local go_sem] by8
set_option maxRecDepth 100000 in
set_option maxHeartbeats 4000000 in
theorem alive_any (w : World) : Calls Try.prog 12 #[] w fun e w' => e = .returned (.bool true) ∧ Below w.heap.size w w' := by
  have HE := Lib.hid (enc_ok w.heap.size w.heap.size (.slice none 0 0) [] 300 (w.alloc (.cells #[.int .i64 300] 3)) (Blk.new w _ _) (BRow.nil _ _) (by simp) (by omega) (by simp))
  go_enter Try.func12, Try.ntmps12
  go_wp2_with fail
  refine HE.out.mono ?_
  rintro e w1 ⟨v1, rfl, R1, _, c1⟩
  have e1 : [] ++ encN 300 = [172, 2] := by rw [encN_big (by omega), encN_small (by omega)]; rfl
  rw [e1] at R1
  have C1 : Ch (fun _ => False) w w1 := ((Ch.refl (fun _ => False) w).alloc (.cells #[.int .i64 300] 3)).step c1 (fun k _ e => by simp [Value.ownBlock] at e)
  have HT := Lib.hid (text_ok w.heap.size v1 [172, 2] ⟨#[97, 98]⟩ w1 R1 C1.size (by decide) (by simp))
  have HC1 := Lib.hid C1
  have HR1 := Lib.hid R1
  clear HE R1 c1 C1
  go_wp2_with fail
  refine HT.out.mono ?_
  rintro e w2 ⟨v2, rfl, R2, c2⟩
  have e2 : [172, 2] ++ (encN (ByteArray.mk #[97, 98]).size ++ sB ⟨#[97, 98]⟩) = [172, 2, 2, 97, 98] := by rw [encN_small (by decide)]; rfl
  rw [e2] at R2
  have C2 := Ch.own HR1.out (Nat.le_refl _) HC1.out c2
  have HC2 := Lib.hid C2
  have HR2 := Lib.hid R2
  obtain ⟨a, cap, rfl, hrow⟩ := R2.at
  have HN := Lib.hid (new_any a cap [172, 2, 2, 97, 98] w2 hrow (by simp))
  clear HT R2 c2 C2 HC1 HR1 hrow
  go_wp2_with fail
  refine HN.out.mono ?_
  rintro e w3 ⟨r, g, rfl, D3, hr, hg, hb3⟩
  have HC3 := Lib.hid (HC2.out.call hb3)
  have HR3 := Lib.hid (HR2.out.below hb3)
  have HM := Lib.hid (num_any r g _ 0 0 1000 w3 D3 (by decide) (by simp [maxLen]))
  have hs2 := HC2.out.size
  have HR2k : ∀ k, (Value.slice a [172, 2, 2, 97, 98].length cap).ownBlock = some k → w.heap.size ≤ k ∧ k < w2.heap.size := fun k hk => HR2.out.lt hk
  clear HN HC2 HR2 hb3 D3
  go_wp2_with fail
  refine HM.out.mono ?_
  intro e w4 hpost
  obtain ⟨rfl, D4, c4⟩ := hpost.at (v := 300) (c := 2) (e2 := 0) (by decide)
  have HC4 := Lib.hid (HC3.out.step c4 (fun k hk e => by omega))
  have HX := Lib.hid (rtext_any r g _ 2 0 9 w4 D4 (by decide) (by simp [maxLen]))
  have HR4 := Lib.hid (HR3.out.ch c4 (fun k hk e => by have := (HR2k _ hk).2; omega))
  clear HM hpost D4 c4 HC3 HR3
  go_wp2_with fail
  refine HX.out.mono ?_
  intro e w5 hpost
  obtain ⟨rfl, D5, c5⟩ := hpost.at (t := [97, 98]) (c := 3) (e2 := 0) (by decide)
  have HC5 := Lib.hid (HC4.out.step c5 (fun k hk e => by omega))
  have HR5 := Lib.hid (HR4.out.ch c5 (fun k hk e => by have := (HR2k _ hk).2; omega))
  have HD5 := Lib.hid D5
  have hbS : bS [97, 98] = ⟨#[97, 98]⟩ := by rfl
  have HQ := Lib.hid (new_any (some ⟨w5.heap.size, 0, none⟩) 2 [128, 0] (w5.alloc (.cells #[.int .u8 128, .int .u8 0] 5)) (Blk.row (Blk.new w5 _ _)) (by simp))
  have hlt5 := D5.lt
  have hs5 := HC5.out.size
  clear HX hpost D5 c5 HC4 HR4
  go_wp2_with fail
  refine HQ.out.mono ?_
  rintro e w6 ⟨r6, g6, rfl, D6, hr6, hg6, hb6⟩
  simp at hr6 hg6
  have HC6 := Lib.hid ((HC5.out.alloc (.cells #[.int .u8 128, .int .u8 0] 5)).call hb6)
  have HR6 := Lib.hid ((HR5.out.below (below1 w5 (.cells #[.int .u8 128, .int .u8 0] 5))).below hb6)
  have HD6 := Lib.hid ((HD5.out.alloc (.cells #[.int .u8 128, .int .u8 0] 5)).below hb6)
  have HM := Lib.hid (num_any r6 g6 _ 0 0 1000 w6 D6 (by decide) (by simp [maxLen]))
  clear HQ HC5 HR5 HD5 hb6 D6
  go_wp2_with fail
  refine HM.out.mono ?_
  intro e w7 hpost
  obtain ⟨rfl, D7, c7⟩ := hpost.at (v := 0) (c := 2) (e2 := 21) (by decide)
  have HC7 := Lib.hid (HC6.out.step c7 (fun k hk e => by omega))
  have HR7 := HR6.out.ch c7 (fun k hk e => by have := (HR2k _ hk).2; omega)
  have HD7 := HD6.out.ch c7 (by omega) (by omega)
  have hstr : (convert 22 9 (.slice a 5 cap)).run Try.prog w7 = .ok (.string ⟨#[172, 2, 2, 97, 98]⟩) w7 := brow_string HR7 (by decide)
  have HEnd := end_any r g _ (0 + 2 + 3) 0 w7 HD7
  simp only [if_true, List.length_cons, List.length_nil] at HEnd
  have HEnd' := Lib.hid HEnd
  have HD7' := Lib.hid D7
  clear HM hpost D7 c7 HC6 HR6 HD6 HEnd HR7 HD7
  go_wp2_with fail
  refine HEnd'.out.mono ?_
  rintro e w8 ⟨rfl, hb8⟩
  have HErr := Lib.hid (err_any r6 g6 _ _ 21 w8 (HD7'.out.below hb8))
  have HC8 := Lib.hid (HC7.out.call hb8)
  clear hb8 HD7' HC7 HEnd' hstr
  go_wp2_with fail
  refine HErr.out.mono ?_
  rintro e w9 ⟨rfl, hb9⟩
  go_wp2_with fail
  go_ret
  exact ⟨rfl, (HC8.out.call hb9).below⟩
end Go.Proofs.Ytlombcclglffgaa
