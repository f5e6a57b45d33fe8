/- PackOne: the walk. -/
import Derived.Test.YtlombcclglffgaaPkAlive
import Derived.Test.YtlombcclglffgaaPkLaw
set_option linter.unusedVariables false
set_option linter.unusedSimpArgs false
namespace Go.Proofs.Ytlombcclglffgaa
open Go.RowKit

set_option maxRecDepth 100000 in
theorem left_any (r g : Nat) (bs : List Nat) (k : Nat) (e : Int) (w : World) (h : Rd w r g bs k e) :
    Calls Try.prog 16 #[.pointer (some ⟨r, 0, none⟩)] w fun x w' => x = .returned (.int .i64 ((bs.length - k : Nat) : Int)) ∧ Below w.heap.size w w' := by
  obtain ⟨o, hb, ho⟩ := h.box
  obtain ⟨q1, q2⟩ := hb.cells
  clear h hb ho
  go_enter Try.func16, Try.ntmps16
  go_wp2
  go_ret
  exact ⟨rfl, Ch.below (by (repeat (first | with_reducible assumption | with_reducible exact Ch.refl _ _ | with_reducible refine Ch.drew ?_ | with_reducible refine Ch.alloc ?_ _ | (with_reducible refine Ch.set' ?_ ?_; focus (first | (right; rfl; done) | (left; simp; done) | (left; simp; omega) | (left; omega) | (right; simp; done) | (right; simp; omega))))))⟩

/-- 'string' of the first bytes of a row. -/
theorem row_string {w : World} {a : Option Addr} {bs : List Nat} (h : RowAt w a 1 b1 bs) (hb : ∀ b ∈ bs, b < 256) (n cap : Nat) (hn : n ≤ bs.length) (h0 : 0 < n) : (convert 22 9 (.slice a n cap)).run Try.prog w = .ok (.string (bS (bs.take n))) w := by
  obtain ⟨x0, hx0⟩ : ∃ x0, bs[0]? = some x0 := ⟨_, List.getElem?_eq_getElem (by omega)⟩
  obtain ⟨b, off, rfl, _, _⟩ := h 0 x0 hx0
  have hl : ((bs.take n).map UInt8.ofNat).length = n := by simp; omega
  have := run_convert_bytes_back (P := Try.prog) w 22 9 5 ⟨b, off, none⟩ cap ((bs.take n).map UInt8.ofNat) Try.underlying22 Try.underlying5 Try.underlying9 (by
    intro j hj
    rw [hl] at hj
    have h1 : bs[j]? = some bs[j] := List.getElem?_eq_getElem (by omega)
    obtain ⟨b', off', e, _, hc⟩ := h j _ h1
    simp at e
    obtain ⟨rfl, rfl⟩ := e
    have h2 := hb _ (List.mem_of_getElem? h1)
    have h3 := hc 0 (by8 bs[j]) rfl
    have hadd : (⟨b, off, none⟩ : Addr).add j = ⟨b, off + (j * 1 + 0), none⟩ := by
      unfold Addr.add
      split
      · rename_i h0; simp [h0]
      · simp
    rw [hadd, h3]
    simp [by8, Nat.mod_eq_of_lt h2])
  rw [hl] at this
  exact this
theorem RowAt.below {w w1 : World} {a : Option Addr} {sz : Nat} {α : Type} {out : α → List Value} {xs : List α} (h : RowAt w a sz out xs) (hb : Below w.heap.size w w1) : RowAt w1 a sz out xs := by
  intro i x hx
  obtain ⟨b, off, rfl, hlt, hc⟩ := h i x hx
  exact ⟨b, off, rfl, Nat.lt_of_lt_of_le hlt hb.size, fun j v hj => (hb.cell (p := ⟨b, _, none⟩) hlt).trans (hc j v hj)⟩

theorem numF_zero {limit : Int} {l : List Nat} {v c : Nat} {e : Int} (h : numF limit l = (v, c, e)) (he : e ≠ 0) : v = 0 := by
  unfold numF at h
  split at h
  · simp at h
    exact absurd h.2.2.symm he
  · simp at h
    exact h.1.symm
theorem numF_back {limit : Int} {l : List Nat} {v c : Nat} (hb : ∀ b ∈ l, b < 256) (h : numF limit l = (v, c, 0)) : l.take c = encN v ∧ c ≤ l.length ∧ v ≤ 4611686018427387904 := by
  unfold numF at h
  split at h
  · rename_i hc
    obtain ⟨⟨v1, c1, e1⟩, hq⟩ : ∃ q, scan 0 0 l = q := ⟨_, rfl⟩
    rw [hq] at h hc
    simp at h hc
    obtain ⟨rfl, rfl⟩ := h
    obtain ⟨rfl, h1, h2⟩ := hc
    obtain ⟨m, e1, e2, _, e4⟩ := scan_inv l 0 0 _ _ hb (by omega) hq
    simp at e1
    subst e1
    exact ⟨e2, e4, h1⟩
  · rename_i hc
    exfalso
    simp at h
    split at h
    · simp at h
    · rename_i h1
      exact h1 h.2.2

set_option maxRecDepth 100000 in
set_option maxHeartbeats 4000000 in
theorem one_row (a : Option Addr) (cap : Nat) (bs : List Nat) (w : World) (hlc : bs.length ≤ cap) (ro : RowAt w a 1 b1 bs) (wb : ∀ b ∈ bs, b < 256) (y : bs.length * 1 ≤ 140737488351232) :
    Calls Try.prog 5 #[.slice a bs.length cap] w fun e w' => e = .returned (.bool true) ∧ Below w.heap.size w w' := by
  have HN := Lib.hid (new_any a cap bs w ro (by omega))
  have HRO := Lib.hid ro
  have HWB := Lib.hid wb
  clear ro wb
  by_cases hl : 20000 < bs.length
  · have h1 : decide ((20000 : Int) < (bs.length : Int)) = true := by simp; omega
    go_enter Try.func5, Try.ntmps5
    go_wp2_with fail
    refine HN.out.mono ?_
    rintro e w3 ⟨r, g, rfl, _, _, _, hb3⟩
    go_wp2_with fail
    refine (alive_any _).mono ?_
    rintro e w4 ⟨rfl, hb4⟩
    go_wp2_with fail
    go_ret
    exact ⟨rfl, ((Ch.of_below (fun _ => False) hb3).call hb4).below⟩
  · have h1 : decide ((20000 : Int) < (bs.length : Int)) = false := by simp; omega
    obtain ⟨⟨v, c, e2⟩, hq⟩ : ∃ q, numF 4611686018427387904 bs = q := ⟨_, rfl⟩
    have HQ := Lib.hid hq
    clear hq
    go_enter Try.func5, Try.ntmps5
    go_wp2_with fail
    refine HN.out.mono ?_
    rintro e w3 ⟨r, g, rfl, D3, hr, hg, hb3⟩
    have HC3 := Lib.hid (Ch.of_below (fun _ => False) hb3)
    have HM := Lib.hid (num_any r g _ 0 0 4611686018427387904 w3 D3 HWB.out (by unfold maxLen; omega))
    clear HN hb3 D3
    go_wp2_with fail
    refine HM.out.mono ?_
    intro e w4 hpost
    obtain ⟨rfl, D4, c4⟩ := hpost.at (v := v) (c := c) (e2 := e2) (by unfold numE; rw [if_pos rfl, List.drop_zero, HQ.out])
    rw [Nat.zero_add] at D4
    have HC4 := Lib.hid (HC3.out.step c4 (fun k hk e => by omega))
    have HD4 := Lib.hid D4
    have HErr := Lib.hid (err_any r g _ _ e2 w4 D4)
    clear HM hpost D4 c4 HC3
    by_cases he : e2 = 0
    · subst he
      obtain ⟨ht, hc, hv⟩ := numF_back HWB.out HQ.out
      have HT := Lib.hid ht
      have HV := Lib.hid hv
      clear ht hv
      go_wp2_with fail
      refine HErr.out.mono ?_
      rintro e w5 ⟨rfl, hb5⟩
      have HC5 := Lib.hid (HC4.out.call hb5)
      have HD5 := Lib.hid (HD4.out.below hb5)
      have HE := Lib.hid (enc_ok w5.heap.size w5.heap.size (.slice none 0 0) [] v (w5.alloc (.cells #[.int .i64 (v : Int)] 3)) (Blk.new w5 _ _) (BRow.nil _ _) (by simp) HV.out (by simp))
      clear HErr hb5 HC4 HD4
      go_wp2_with fail
      refine HE.out.mono ?_
      rintro e w6 ⟨v1, rfl, R6, _, c6⟩
      rw [List.nil_append] at R6
      have C6 := Lib.hid ((HC5.out.alloc (.cells #[.int .i64 (v : Int)] 3)).step c6 (fun k _ e => by simp [Value.ownBlock] at e))
      have hsub : ((c : Int) == (bs.length : Int) - ((bs.length - c : Nat) : Int)) = true := by simp; omega
      have hcap : decide (cap < c) = false := by simp; omega
      have HD6 := Lib.hid ((HD5.out.alloc (.cells #[.int .i64 (v : Int)] 3)).ch c6 (fun e => by simp [Value.ownBlock] at e) (fun e => by simp [Value.ownBlock] at e))
      have HR6 := Lib.hid R6
      have hel : (encN v).length = c := by rw [← HT.out, List.length_take]; omega
      have hcp : 0 < c := by rw [← hel]; exact encN_pos v
      obtain ⟨a1, cap1, rfl, _⟩ := R6.at
      rw [hel]
      have s1 : ∀ x : Later w6, (convert 22 9 (.slice a1 c cap1)).run Try.prog x.w = .ok (.string (bS (encN v))) x.w := fun x => by
        have := brow_string (HR6.out.below x.h) (encN_lt v)
        rw [hel] at this
        exact this
      have s2 : ∀ x : Later w6, (convert 22 9 (.slice a c cap)).run Try.prog x.w = .ok (.string (bS (encN v))) x.w := fun x => by
        have := row_string ((HRO.out.below C6.out.below).below x.h) HWB.out c cap hc hcp
        rw [HT.out] at this
        exact this
      have AL := Lib.hid (fun x : Later w6 => alive_any x.w)
      have LE := Lib.hid (fun x : Later w6 => left_any r g _ _ _ x.w (HD6.out.below x.h))
      clear HE c6 HC5 HD5 R6 HR6 HD6 HRO HWB HT HV HQ
      go_wp2_with fail
      refine wp_region_later (by kernel_rfl) (by kernel_rfl) ?_
      repeat (go_big_quiet_step (first | (go_at_call 12; exact Calls.later (AL.out _)) | (go_at_call 16; exact Calls.later (LE.out _))))
      refine wpQuiet_nil ?_
      rintro _ ⟨x, rfl⟩
      go_wp2_with fail
      go_ret
      exact ⟨rfl, (C6.out.call x.h).below⟩
    · have he1 : (e2 == 0) = false := by simp [he]
      have hv : v = 0 := numF_zero HQ.out he
      subst hv
      go_wp2_with fail
      refine HErr.out.mono ?_
      rintro e w5 ⟨rfl, hb5⟩
      go_wp2_with fail
      refine (alive_any _).mono ?_
      rintro e w6 ⟨rfl, hb6⟩
      go_wp2_with fail
      go_ret
      exact ⟨rfl, ((HC4.out.call hb5).call hb6).below⟩
end Go.Proofs.Ytlombcclglffgaa
