/- NewReader: a reader over a copy of any bytes. -/
import Derived.Test.YthknfikjanoflaaPkW
import Derived.Test.YthknfikjanoflaaOpen
import Derived.Laws.CopyRow
import Derived.Laws.OwnMore
import Derived.Laws.IdiomCopy
set_option linter.unusedVariables false
set_option linter.unusedSimpArgs false
namespace Go.Proofs.Ythknfikjanoflaa
open Go.RowKit

/-- What NewReader hands back. -/
def NewPost (bs : List Nat) (w : World) (x : Ending) (w' : World) : Prop :=
  ∃ r g, x = .returned (.pointer (some ⟨r, 0, none⟩)) ∧ Rd w' r g bs 0 0 ∧ w.heap.size ≤ r ∧ w.heap.size ≤ g ∧ Below w.heap.size w w'

def b1 (b : Nat) : List Value := [by8 b]

/-- Bytes of a row of one's own lie at its address. -/
theorem BRow.at {w : World} {base : Nat} {v : Value} {bs : List Nat} (h : BRow w base v bs) : ∃ a cap, v = .slice a bs.length cap ∧ RowAt w a 1 b1 bs := by
  rcases h.2 with ⟨hv, h0⟩ | ⟨g, cap, cur, hv, hg, hh, hn, hc, hsz, htake⟩
  · have : bs = [] := List.length_eq_zero_iff.1 h0
    subst this
    exact ⟨none, 0, hv, fun i x hx => by simp at hx⟩
  · subst hv
    refine ⟨_, _, rfl, fun i x hx => ⟨g, 0, rfl, lt_of_block hh, fun j v hj => ?_⟩⟩
    have hi := (List.getElem?_eq_some_iff.1 hx).1
    match j, hj with
    | 0, hj =>
      have := h.cellAt (i * 1 + 0) (by omega)
      rw [show 0 + (i * 1 + 0) = i * 1 + 0 by omega, this]
      simp [hx]
      simpa [b1] using hj
    | j + 1, hj => simp [b1] at hj

set_option maxRecDepth 100000 in
theorem new_any (a : Option Addr) (cap : Nat) (bs : List Nat) (w : World) (h : RowAt w a 1 b1 bs) (hlen : bs.length ≤ 140737488351242) :
    Calls Try.prog 32 #[.slice a bs.length cap] w (NewPost bs w) := by
  obtain ⟨i0, hinfo, hz0, hz1, hz2⟩ := info_parts infoByte
  obtain ⟨w1, hmk, hown, hgrow⟩ := run_make_full (P := Try.prog) (w := w) w.heap.size 51 5 i0 (.int .u8 0) 1 Try.underlying51 hinfo hz0 hz1 .i64 .i64 bs.length (by rw [hz2]; omega) (by unfold maxLen; omega) (Nat.le_refl _)
  obtain ⟨cur, hB1, hcs⟩ : ∃ cur : Array Value, Blk w1 w.heap.size cur 5 ∧ cur.size = bs.length := by
    rcases hown.2 with ⟨hv, _⟩ | ⟨g, cap', cur, hv, _, hh, _, _, hsz, _⟩
    · simp at hv
    · simp at hv
      obtain ⟨rfl, rfl⟩ := hv
      exact ⟨cur, hh, by rw [hsz]; omega⟩
  have hc1 : Ch (fun _ => False) w w1 := (Ch.of_grown hgrow).mono (fun k e => by cases e)
  obtain ⟨w2, hcp, hB2, hc2⟩ : ∃ w2, (∀ ty, (Builtin.copy_ #[51, 51] ty #[.slice (some ⟨w.heap.size, 0, none⟩) bs.length bs.length, .slice a bs.length cap]).run Try.prog w1 = .ok (goInt bs.length) w2) ∧ Blk w2 w.heap.size (bs.map by8).toArray 5 ∧ Ch (fun k => k = w.heap.size) w1 w2 := by
    have hone : (Try.prog.info? 5).map (·.size) = some 1 := by rw [hinfo]; simp [hz1]
    by_cases he : bs = []
    · subst he
      have h0 : cur = #[] := Array.eq_empty_of_size_eq_zero hcs
      subst h0
      exact ⟨w1, fun ty => run_copy_none w1 _ _ ty 5 _ _ _ _ _ _ Try.underlying51 hone (by simp), hB1, Ch.refl _ _⟩
    · obtain ⟨b0, hb0⟩ : ∃ b0, bs[0]? = some b0 := ⟨_, List.getElem?_eq_getElem (List.length_pos_iff.2 he)⟩
      obtain ⟨bb, off, rfl, hbb, _⟩ := h 0 b0 hb0
      have hsrc : ∀ j v, (bs.map by8)[j]? = some v → w1.cell? ((⟨bb, off, none⟩ : Addr).add j) = some v := by
        intro j v hj
        rw [List.getElem?_map] at hj
        cases hx : bs[j]? with
        | none => rw [hx] at hj; simp at hj
        | some x =>
          rw [hx] at hj
          simp at hj
          obtain ⟨bb', off', e, _, hc⟩ := h j x hx
          simp at e
          obtain ⟨rfl, rfl⟩ := e
          have h2 := hc 0 v (by rw [← hj]; rfl)
          have hadd : (⟨bb, off, none⟩ : Addr).add j = ⟨bb, off + (j * 1 + 0), none⟩ := by
            unfold Addr.add
            split
            · rename_i h0; simp [h0]
            · simp
          rw [hadd]
          exact (hc1.below.cell (p := ⟨bb, _, none⟩) hbb).trans h2
      refine ⟨w1.setRow w.heap.size (cur.toList.take 0 ++ bs.map by8 ++ cur.toList.drop (0 + (bs.map by8).length)).toArray, fun ty => ?_, ?_, ?_⟩
      · have := run_copy_row (P := Try.prog) w1 51 51 ty 5 w.heap.size 0 bs.length bs.length ⟨bb, off, none⟩ bs.length cap cur 5 (bs.map by8) Try.underlying51 hone hB1 (by simp) hsrc (by simp [hcs]) (by
          intro u hu
          obtain ⟨x, _, rfl⟩ := List.mem_map.1 hu
          rfl)
        rw [this]
        simp
      · have := setRow_heap w1 w.heap.size cur (cur.toList.take 0 ++ bs.map by8 ++ cur.toList.drop (0 + (bs.map by8).length)).toArray 5 (0, 0) hB1
        have hd : cur.toList.drop (0 + (bs.map by8).length) = [] := List.drop_eq_nil_of_le (by simp [hcs])
        unfold Blk
        rw [this, hd]
        simp
      · exact ⟨rfl, rfl, rfl, by simp, fun k _ hn => setRow_other _ _ _ _ hn⟩
  have HB2 := Lib.hid hB2
  have HC := Lib.hid ((hc1.mono (S' := fun _ => False) (fun _ e => e)).step hc2 (fun k hk e => by omega))
  clear hown hgrow hB1 hc1 hc2 hB2 hinfo hz0 hz1 hz2 h
  go_enter Try.func32, Try.ntmps32
  go_wp2_with fail
  have hlt := HB2.out.lt
  exact bodyPost_ret (v := .pointer (some ⟨w2.heap.size, 0, none⟩)) (by simp [results, Try.results32, go_sem]) rfl ⟨w2.heap.size, w.heap.size, rfl, ⟨⟨0, by simpa using Blk.new w2 _ _, fun _ => rfl⟩, HB2.out.alloc _, Nat.zero_le _, by omega⟩, Nat.le_of_lt hlt, Nat.le_refl _, (HC.out.alloc _).below⟩
end Go.Proofs.Ythknfikjanoflaa
