/- The reader's Text, Bool and alive of the pack laws. -/
import Derived.Test.YthknfikjanoflaaPkTx
set_option linter.unusedVariables false
set_option linter.unusedSimpArgs false
namespace Go.Proofs.Ythknfikjanoflaa
open Go.RowKit

/-- What a reader with error e does for Num: number, bytes, error. -/
def numE (e limit : Int) (l : List Nat) : Nat × Nat × Int := if e = 0 then numF limit l else (0, 0, e)
def NumEPost (r g : Nat) (bs : List Nat) (k : Nat) (e limit : Int) (w : World) (x : Ending) (w' : World) : Prop :=
  x = .returned (.int .i64 ((numE e limit (bs.drop k)).1 : Nat)) ∧ Rd w' r g bs (k + (numE e limit (bs.drop k)).2.1) (numE e limit (bs.drop k)).2.2 ∧ Ch (· = r) w w'
theorem num_any (r g : Nat) (bs : List Nat) (k : Nat) (e limit : Int) (w : World) (h : Rd w r g bs k e) (hb : ∀ b ∈ bs, b < 256) (hlen : bs.length ≤ maxLen) :
    Calls Try.prog 33 #[.pointer (some ⟨r, 0, none⟩), .int .i64 limit] w (NumEPost r g bs k e limit w) := by
  unfold NumEPost numE
  by_cases he : e = 0
  · subst he
    simp only [if_true]
    exact num_ok r g bs k limit w h hb hlen
  · simp only [if_neg he]
    exact num_err r g bs k e limit w h he

/-- What Text reads: the bytes, how many were taken, the error. -/
def textE (e limit : Int) (l : List Nat) : List Nat × Nat × Int :=
  if (numE e limit l).2.2 = 0 then
    (if (numE e limit l).1 ≤ (l.drop (numE e limit l).2.1).length then ((l.drop (numE e limit l).2.1).take (numE e limit l).1, (numE e limit l).2.1 + (numE e limit l).1, 0) else ([], (numE e limit l).2.1, 20))
  else ([], (numE e limit l).2.1, (numE e limit l).2.2)
def TextEPost (r g : Nat) (bs : List Nat) (k : Nat) (e limit : Int) (w : World) (x : Ending) (w' : World) : Prop :=
  x = .returned (.string (bS (textE e limit (bs.drop k)).1)) ∧ Rd w' r g bs (k + (textE e limit (bs.drop k)).2.1) (textE e limit (bs.drop k)).2.2 ∧ Ch (· = r) w w'

/-- 'string' of bytes of a reader. -/
theorem string_of (src dst el : TypeId) {P : Program} (w : World) (g o n c : Nat) (bs : List Nat) (t : Nat) (h : Blk w g (bs.map by8).toArray t) (hb : ∀ b ∈ bs, b < 256) (hn : o + n ≤ bs.length)
    (hs : P.underlying src = some (.slice el)) (he : P.underlying el = some (.int .u8)) (hd : P.underlying dst = some .string) :
    (convert src dst (.slice (some ⟨g, o, none⟩) n c)).run P w = .ok (.string (bS ((bs.drop o).take n))) w := by
  have hl : (((bs.drop o).take n).map UInt8.ofNat).length = n := by simp; omega
  have := run_convert_bytes_back (P := P) w src dst el ⟨g, o, none⟩ c (((bs.drop o).take n).map UInt8.ofNat) hs he hd (by
    intro j hj
    rw [hl] at hj
    have hadd : (⟨g, o, none⟩ : Addr).add j = ⟨g, o + j, none⟩ := by
      unfold Addr.add
      split
      · rename_i h0; simp [h0]
      · rfl
    rw [hadd, h.cell]
    have h1 : bs[o + j]? = some bs[o + j] := List.getElem?_eq_getElem (by omega)
    have h2 := hb _ (List.mem_of_getElem? h1)
    simp [by8, Nat.mod_eq_of_lt h2]
    exact ⟨_, h1, rfl⟩)
  rw [hl] at this
  exact this

set_option maxRecDepth 100000 in
theorem rtext_any (r g : Nat) (bs : List Nat) (k : Nat) (e limit : Int) (w : World) (h : Rd w r g bs k e) (hb : ∀ b ∈ bs, b < 256) (hlen : bs.length ≤ maxLen) :
    Calls Try.prog 34 #[.pointer (some ⟨r, 0, none⟩), .int .i64 limit] w (TextEPost r g bs k e limit w) := by
  have HN := Lib.hid (num_any r g bs k e limit w h hb hlen)
  have HB := Lib.hid hb
  clear h hb
  go_enter Try.func34, Try.ntmps34
  go_wp2_with fail
  refine HN.out.mono ?_
  rintro x w1 ⟨rfl, R1, c1⟩
  obtain ⟨⟨n, c, e1⟩, hq⟩ : ∃ q, q = numE e limit (bs.drop k) := ⟨_, rfl⟩
  rw [← hq] at R1 ⊢
  have HR1 := Lib.hid R1
  have HQ := Lib.hid hq
  have HC1 := Lib.hid c1
  have hle := R1.le
  clear R1 hq c1 HN
  by_cases hbad : e1 ≠ 0 ∨ bs.length < k + c + n
  · have ht := take_bad r g bs (k + c) n e1 w1 HR1.out hbad
    obtain ⟨e2, he2⟩ : ∃ e2, e2 = (if e1 = 0 then 20 else e1) := ⟨_, rfl⟩
    rw [← he2] at ht
    have HT := Lib.hid ht
    have HE2 := Lib.hid he2
    have hnil := fun w' => Lib.run_convert_nil_bytes (P := Try.prog) w' 51 9 5 0 Try.underlying51 Try.underlying5 Try.underlying9
    clear ht he2
    go_wp2_with fail
    refine HT.out.mono ?_
    rintro x w2 ⟨rfl, R2, c2⟩
    have HR2 := Lib.hid R2
    have HC2 := Lib.hid (HC1.out.trans c2)
    clear R2 c2 HT HR1 HC1
    go_wp2_with fail
    have hte : textE e limit (bs.drop k) = ([], c, e2) := by
      unfold textE
      rw [← HQ.out]
      simp only
      by_cases h0 : e1 = 0
      · rw [if_pos h0, if_neg (by
          have := hbad.resolve_left (by simp [h0])
          simp only [List.length_drop]
          omega), HE2.out, if_pos h0]
      · rw [if_neg h0, HE2.out, if_neg h0]
    refine bodyPost_ret (v := .string (bS [])) (by simp [results, Try.results34, go_sem, bS]) rfl ?_
    unfold TextEPost
    rw [hte]
    exact ⟨rfl, HR2.out, HC2.out⟩
  · have h0 : e1 = 0 := by omega
    subst h0
    have HT := Lib.hid (take_ok r g bs (k + c) n w1 HR1.out (by omega) hlen)
    have hte : textE e limit (bs.drop k) = ((bs.drop (k + c)).take n, c + n, 0) := by
      unfold textE
      rw [← HQ.out]
      simp only [if_true]
      rw [if_pos (by simp only [List.length_drop]; omega), List.drop_drop]
    have HTE := Lib.hid hte
    clear hte HQ
    go_wp2_with fail
    refine HT.out.mono ?_
    rintro x w2 ⟨⟨o, cp, rfl, ho⟩, R2, c2⟩
    have hstr : (convert 51 9 (.slice (some ⟨g, o, none⟩) n cp)).run Try.prog w2 = .ok (.string (bS ((bs.drop (k + c)).take n))) w2 := by
      by_cases hn : 0 < n
      · rw [ho hn]
        exact string_of _ _ 5 w2 g (k + c) n cp bs _ R2.arr HB.out (by omega) Try.underlying51 Try.underlying5 Try.underlying9
      · obtain rfl : n = 0 := by omega
        have := run_convert_bytes_back (P := Try.prog) w2 51 9 5 ⟨g, o, none⟩ cp [] Try.underlying51 Try.underlying5 Try.underlying9 (by simp)
        simpa [bS] using this
    have HR2 := Lib.hid R2
    have HC2 := Lib.hid (HC1.out.trans c2)
    clear R2 c2 HT HR1 HC1 ho
    go_wp2_with fail
    refine bodyPost_ret (v := .string (bS ((bs.drop (k + c)).take n))) (by simp [results, Try.results34, go_sem]) rfl ?_
    unfold TextEPost
    rw [HTE.out]
    exact ⟨rfl, by have := HR2.out; rw [← Nat.add_assoc]; exact this, HC2.out⟩

end Go.Proofs.Ythknfikjanoflaa
