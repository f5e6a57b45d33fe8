/- What other chapters need of pack's plain laws and readings. -/
import Derived.Test.YthknfikjanoflaaPkLawx
import Derived.Lib.ConvBytes
set_option linter.unusedVariables false
set_option linter.unusedSimpArgs false
namespace Go.Proofs.Ythknfikjanoflaa
open Go.RowKit

theorem NumEPost.at {r g : Nat} {bs : List Nat} {k : Nat} {e limit : Int} {w w' : World} {x : Ending} (h : NumEPost r g bs k e limit w x w') {v c : Nat} {e2 : Int} (hq : numE e limit (bs.drop k) = (v, c, e2)) :
    x = .returned (.int .i64 (v : Nat)) ∧ Rd w' r g bs (k + c) e2 ∧ Ch (· = r) w w' := by
  unfold NumEPost at h
  rw [hq] at h
  exact h
theorem TextEPost.at {r g : Nat} {bs : List Nat} {k : Nat} {e limit : Int} {w w' : World} {x : Ending} (h : TextEPost r g bs k e limit w x w') {t : List Nat} {c : Nat} {e2 : Int} (hq : textE e limit (bs.drop k) = (t, c, e2)) :
    x = .returned (.string (bS t)) ∧ Rd w' r g bs (k + c) e2 ∧ Ch (· = r) w w' := by
  unfold TextEPost at h
  rw [hq] at h
  exact h

/-- 'string' of a row of bytes. -/
theorem brow_string {w : World} {base : Nat} {v : Value} {bs : List Nat} (h : BRow w base v bs) (hb : ∀ b ∈ bs, b < 256) : (convert 51 9 v).run Try.prog w = .ok (.string (bS bs)) w := by
  rcases h.2 with ⟨hv, h0⟩ | ⟨g, cap, cur, hv, hg, hh, hn, hc, hsz, htake⟩
  · have : bs = [] := List.length_eq_zero_iff.1 h0
    subst this
    subst hv
    exact Lib.run_convert_nil_bytes (P := Try.prog) w 51 9 5 0 Try.underlying51 Try.underlying5 Try.underlying9
  · subst hv
    have hl : (bs.map UInt8.ofNat).length = bs.length := List.length_map _
    have := run_convert_bytes_back (P := Try.prog) w 51 9 5 ⟨g, 0, none⟩ cap (bs.map UInt8.ofNat) Try.underlying51 Try.underlying5 Try.underlying9 (by
      intro j hj
      rw [hl] at hj
      rw [h.cells (g := g) rfl j (by8 bs[j]) (by simp [hj])]
      have h2 := hb _ (List.getElem_mem hj)
      simp [by8, Nat.mod_eq_of_lt h2])
    rw [hl] at this
    exact this

theorem BRow.nil (w : World) (base : Nat) : BRow w base (.slice none 0 0) [] := World.ownsRow_nil _ _ _ _

theorem BRow.lt {w : World} {base : Nat} {v : Value} {bs : List Nat} (h : BRow w base v bs) {g : Nat} (e : v.ownBlock = some g) : base ≤ g ∧ g < w.heap.size := by
  rcases h.2 with ⟨h2, _⟩ | ⟨g3, cap3, cur3, hv3, hg3, hh, _⟩
  · rw [h2] at e; simp [Value.ownBlock] at e
  · rw [hv3] at e
    obtain rfl : g3 = g := by simpa [Value.ownBlock] using e
    exact ⟨hg3, lt_of_block hh⟩
/-- A row behind a step that changes it alone: nothing old. -/

theorem RowAt.below {w w1 : World} {a : Option Addr} {sz : Nat} {α : Type} {out : α → List Value} {xs : List α} (h : RowAt w a sz out xs) (hb : Below w.heap.size w w1) : RowAt w1 a sz out xs := by
  intro i x hx
  obtain ⟨b, off, rfl, hlt, hc⟩ := h i x hx
  exact ⟨b, off, rfl, Nat.lt_of_lt_of_le hlt hb.size, fun j v hj => (hb.cell (p := ⟨b, _, none⟩) hlt).trans (hc j v hj)⟩

theorem numF_zero {limit : Int} {l : List Nat} {v c : Nat} {e : Int} (h : numF limit l = (v, c, e)) (he : e ≠ 0) : v = 0 := by
  unfold numF at h
  split at h
  · simp at h
    exact absurd h.2.2.symm he
  · simp at h
    exact h.1.symm
theorem numF_back {limit : Int} {l : List Nat} {v c : Nat} (hb : ∀ b ∈ l, b < 256) (h : numF limit l = (v, c, 0)) : l.take c = encN v ∧ c ≤ l.length ∧ v ≤ 4611686018427387904 := by
  unfold numF at h
  split at h
  · rename_i hc
    obtain ⟨⟨v1, c1, e1⟩, hq⟩ : ∃ q, scan 0 0 l = q := ⟨_, rfl⟩
    rw [hq] at h hc
    simp at h hc
    obtain ⟨rfl, rfl⟩ := h
    obtain ⟨rfl, h1, h2⟩ := hc
    obtain ⟨m, e1, e2, _, e4⟩ := scan_inv l 0 0 _ _ hb (by omega) hq
    simp at e1
    subst e1
    exact ⟨e2, e4, h1⟩
  · rename_i hc
    exfalso
    simp at h
    split at h
    · simp at h
    · rename_i h1
      exact h1 h.2.2

theorem scan_le : ∀ (l : List Nat) (j n : Nat), (scan j n l).2.1 ≤ l.length
  | [], _, _ => by simp [scan]
  | x :: l, j, n => by
    have ih := scan_le l (j + 1) (n + (x - 128) * 128 ^ j)
    unfold scan
    split
    · split <;> simp
    · split
      · simp
      · simp
        omega
theorem numE_le (e limit : Int) (l : List Nat) : (numE e limit l).2.1 ≤ l.length := by
  unfold numE
  split
  · unfold numF
    have := scan_le l 0 0
    split <;> simpa using this
  · simp
theorem textE_le (e limit : Int) (l : List Nat) : (textE e limit l).2.1 ≤ l.length := by
  have := numE_le e limit l
  unfold textE
  split
  · split
    · rename_i h
      simp only [List.length_drop] at h
      show (numE e limit l).2.1 + (numE e limit l).1 ≤ l.length
      omega
    · exact this
  · exact this

theorem bS_size (l : List Nat) : (bS l).size = l.length := by unfold bS; simp [ByteArray.size]
theorem bS_add (a b : List Nat) : bS a ++ bS b = bS (a ++ b) := by
  apply Go.WideShapes.bytes_inj
  unfold bS
  simp
theorem BRow.own {w : World} {base : Nat} {v : Value} {bs : List Nat} (h : BRow w base v bs) : ∀ g, v.ownBlock = some g → base ≤ g := fun g e => (h.lt e).1
theorem numE_enc {m : Nat} (hm : m ≤ 4611686018427387904) (limit : Int) (hl : (m : Int) ≤ limit) (rest : List Nat) : numE 0 limit (encN m ++ rest) = (m, (encN m).length, 0) := by
  unfold numE
  rw [if_pos rfl, numF_enc hm, if_pos hl]
theorem textE_enc {s : ByteArray} (hs : s.size ≤ 65536) (limit : Int) (hl : (s.size : Int) ≤ limit) (rest : List Nat) : textE 0 limit (encN s.size ++ sB s ++ rest) = (sB s, (encN s.size).length + s.size, 0) := by
  unfold textE
  rw [List.append_assoc, numE_enc (by omega) limit hl]
  simp only [if_true]
  rw [List.drop_left, List.length_append, sB_length, if_pos (by omega)]
  congr 1
  rw [← sB_length, List.take_left]

/-- '[]byte' of a string. -/
theorem conv_bytes (w : World) (s : ByteArray) : ∃ cap w', (convert 9 51 (.string s)).run Try.prog w = .ok (.slice (some ⟨w.heap.size, 0, none⟩) (sB s).length cap) w' ∧ RowAt w' (some ⟨w.heap.size, 0, none⟩) 1 b1 (sB s) ∧ Below w.heap.size w w' := by
  refine ⟨_, _, by rw [sB_length]; exact Lib.run_convert_string_bytes (P := Try.prog) w 9 51 5 s Try.underlying9 Try.underlying51 Try.underlying5, ?_, ?_⟩
  · intro i x hx
    have hi := (List.getElem?_eq_some_iff.1 hx).1
    rw [sB_length] at hi
    refine ⟨w.heap.size, 0, rfl, by rw [Lib.bytesWorld_size]; omega, fun j v hj => ?_⟩
    match j, hj with
    | 0, hj =>
      rw [show 0 + (i * 1 + 0) = i by omega, Lib.bytesWorld_cell w _ s i hi]
      simp [b1] at hj
      subst hj
      unfold sB at hx
      rw [List.getElem?_map] at hx
      obtain ⟨y, hy, rfl⟩ := Option.map_eq_some_iff.1 hx
      rw [List.getD_eq_getElem?_getD, hy]
      rfl
    | j + 1, hj => simp [b1] at hj
  · exact ⟨rfl, rfl, rfl, by rw [Lib.bytesWorld_size]; omega, fun k hk => Lib.bytesWorld_at_old w _ s k hk⟩
end Go.Proofs.Ythknfikjanoflaa
