/- The reader of pack: its memory, and its methods fail, take, Left, Err, End. -/
import Derived.Test.YthknfikjanoflaaBase
import Derived.Test.YthknfikjanoflaaChecked
set_option linter.unusedVariables false
set_option linter.unusedSimpArgs false
namespace Go.Proofs.Ythknfikjanoflaa
open Go.RowKit

/-- A byte as a value. -/
def by8 (b : Nat) : Value := .int .u8 (b : Int)

/-- A reader: its block r, its own array's block g, all its bytes, how many of them are read, its error. (At the array's end what is left may lie at any place.) -/
structure Rd (w : World) (r g : Nat) (bs : List Nat) (k : Nat) (e : Int) : Prop where
  box : ∃ o, Blk w r #[.slice (some ⟨g, o, none⟩) (bs.length - k) (bs.length - k), .int .i64 e] 84 ∧ (k < bs.length → o = k)
  arr : Blk w g (bs.map by8).toArray 5
  le : k ≤ bs.length
  ne : r ≠ g

theorem Rd.ch {w w1 : World} {r g : Nat} {bs : List Nat} {k : Nat} {e : Int} {S : Nat → Prop} (h : Rd w r g bs k e) (hc : Ch S w w1) (hr : ¬ S r) (hg : ¬ S g) : Rd w1 r g bs k e :=
  ⟨by obtain ⟨o, h1, h2⟩ := h.box; exact ⟨o, h1.ch hc hr, h2⟩, h.arr.ch hc hg, h.le, h.ne⟩
theorem Rd.below {w w1 : World} {r g : Nat} {bs : List Nat} {k : Nat} {e : Int} (h : Rd w r g bs k e) (hb : Below w.heap.size w w1) : Rd w1 r g bs k e := h.ch (Ch.of_below (fun _ => False) hb) id id
theorem Rd.alloc {w : World} {r g : Nat} {bs : List Nat} {k : Nat} {e : Int} (h : Rd w r g bs k e) (o : Obj) : Rd (w.alloc o) r g bs k e := h.below (below1 w o)
theorem Rd.drew {w : World} {r g : Nat} {bs : List Nat} {k : Nat} {e : Int} (h : Rd w r g bs k e) : Rd w.drew r g bs k e := h.ch (Ch.drew (Ch.refl (fun _ => False) w)) id id
theorem Rd.lt {w : World} {r g : Nat} {bs : List Nat} {k : Nat} {e : Int} (h : Rd w r g bs k e) : r < w.heap.size ∧ g < w.heap.size := ⟨by obtain ⟨o, h1, _⟩ := h.box; exact h1.lt, h.arr.lt⟩

set_option maxRecDepth 100000 in
theorem fail_any (r : Nat) (s : Value) (e e2 : Int) (w : World) (h : Blk w r #[s, .int .i64 e] 84) :
    Calls Try.prog 45 #[.pointer (some ⟨r, 0, none⟩), .int .i64 e2] w fun x w' => x = .returned (.tuple #[]) ∧ Blk w' r #[s, .int .i64 (if e = 0 then e2 else e)] 84 ∧ Ch (· = r) w w' := by
  have H := Lib.hid h
  obtain ⟨q1, q2⟩ := h.cells
  clear h
  by_cases he : e = 0
  · subst he
    go_enter Try.func45, Try.ntmps45
    go_wp2
    go_end0
    exact ⟨rfl, by simpa using H.out.set 1 (.int .i64 e2), by (repeat (first | with_reducible assumption | with_reducible exact Ch.refl _ _ | with_reducible refine Ch.drew ?_ | with_reducible refine Ch.alloc ?_ _ | (with_reducible refine Ch.set' ?_ ?_; focus (first | (right; rfl; done) | (left; simp; done) | (left; simp; omega) | (left; omega) | (right; simp; done) | (right; simp; omega)))))⟩
  · have h1 : (e == 0) = false := by simp [he]
    go_enter Try.func45, Try.ntmps45
    go_wp2
    go_end0
    exact ⟨rfl, by simpa [he] using H.out, by (repeat (first | with_reducible assumption | with_reducible exact Ch.refl _ _ | with_reducible refine Ch.drew ?_ | with_reducible refine Ch.alloc ?_ _ | (with_reducible refine Ch.set' ?_ ?_; focus (first | (right; rfl; done) | (left; simp; done) | (left; simp; omega) | (left; omega) | (right; simp; done) | (right; simp; omega)))))⟩

/-- What 'take' hands back: n bytes of the array, and it goes on behind them. -/
def TakePost (r g : Nat) (bs : List Nat) (k n : Nat) (w : World) (x : Ending) (w' : World) : Prop :=
  (∃ o c, x = .returned (.slice (some ⟨g, o, none⟩) n c) ∧ (0 < n → o = k)) ∧ Rd w' r g bs (k + n) 0 ∧ Ch (· = r) w w'

set_option maxRecDepth 100000 in
theorem take_ok (r g : Nat) (bs : List Nat) (k n : Nat) (w : World) (h : Rd w r g bs k 0) (hn : k + n ≤ bs.length) (hlen : bs.length ≤ maxLen) :
    Calls Try.prog 44 #[.pointer (some ⟨r, 0, none⟩), .int .i64 n] w (TakePost r g bs k n w) := by
  obtain ⟨o, hb, ho⟩ := h.box
  have HB := Lib.hid hb
  have HO := Lib.hid ho
  have HA := Lib.hid h.arr
  have hne := h.ne
  obtain ⟨q1, q2⟩ := hb.cells
  simp only [maxLen] at hlen
  have h1 : decide (((bs.length - k : Nat) : Int) < (n : Int)) = false := by simp; omega
  have hle := h.le
  clear h hb ho
  go_enter Try.func44, Try.ntmps44
  go_wp2
  · refine bodyPost_ret (v := .slice (some ⟨g, o, none⟩) n (bs.length - k)) (by simp [results, Try.results44, go_sem]; omega) rfl ⟨⟨o, _, rfl, fun h0 => HO.out (by omega)⟩, ⟨⟨o, ?_, fun hk => by omega⟩, HA.out.far (p := ⟨r, 0, none⟩) (by simpa using hne.symm) _, hn, hne⟩, by (repeat (first | with_reducible assumption | with_reducible exact Ch.refl _ _ | with_reducible refine Ch.drew ?_ | with_reducible refine Ch.alloc ?_ _ | (with_reducible refine Ch.set' ?_ ?_; focus (first | (right; rfl; done) | (left; simp; done) | (left; simp; omega) | (left; omega) | (right; simp; done) | (right; simp; omega)))))⟩
    have := HB.out.set 0 (.slice (some ⟨g, o, none⟩) 0 0)
    rw [show bs.length - (k + n) = 0 by omega]
    simpa using this
  · have hk : o = k := HO.out (by omega)
    subst hk
    refine bodyPost_ret (v := .slice (some ⟨g, o, none⟩) n (bs.length - o)) (by simp [results, Try.results44, go_sem]) rfl ⟨⟨o, _, rfl, fun h0 => rfl⟩, ⟨⟨o + n, ?_, fun hk => rfl⟩, HA.out.far (p := ⟨r, 0, none⟩) (by simpa using hne.symm) _, hn, hne⟩, by (repeat (first | with_reducible assumption | with_reducible exact Ch.refl _ _ | with_reducible refine Ch.drew ?_ | with_reducible refine Ch.alloc ?_ _ | (with_reducible refine Ch.set' ?_ ?_; focus (first | (right; rfl; done) | (left; simp; done) | (left; simp; omega) | (left; omega) | (right; simp; done) | (right; simp; omega)))))⟩
    have := HB.out.set 0 (.slice (some ⟨g, o + n, none⟩) (bs.length - o - n) (bs.length - o - n))
    rw [show bs.length - (o + n) = bs.length - o - n by omega]
    simpa using this

set_option maxRecDepth 100000 in
theorem take_err (r g : Nat) (bs : List Nat) (k n : Nat) (e : Int) (w : World) (h : Rd w r g bs k e) (he : e ≠ 0) :
    Calls Try.prog 44 #[.pointer (some ⟨r, 0, none⟩), .int .i64 n] w fun x w' => x = .returned (.slice none 0 0) ∧ Rd w' r g bs k e ∧ Ch (· = r) w w' := by
  obtain ⟨o, hb, ho⟩ := h.box
  have HB := Lib.hid hb
  have H := Lib.hid h
  obtain ⟨q1, q2⟩ := hb.cells
  have h1 : (e == 0) = false := by simp [he]
  have HF := Lib.hid (fail_any r _ e 20 w hb)
  clear h hb
  go_enter Try.func44, Try.ntmps44
  go_wp2_with fail
  refine HF.out.mono ?_
  rintro x w1 ⟨rfl, hb1, c1⟩
  go_wp2
  have hne := H.out.ne
  exact bodyPost_ret (v := .slice none 0 0) (by simp [results, Try.results44, go_sem]) rfl ⟨rfl, ⟨⟨o, by simpa [he] using hb1, ho⟩, H.out.arr.ch c1 (by omega), H.out.le, hne⟩, c1⟩

set_option maxRecDepth 100000 in
theorem take_short (r g : Nat) (bs : List Nat) (k n : Nat) (w : World) (h : Rd w r g bs k 0) (hn : bs.length < k + n) :
    Calls Try.prog 44 #[.pointer (some ⟨r, 0, none⟩), .int .i64 n] w fun x w' => x = .returned (.slice none 0 0) ∧ Rd w' r g bs k 20 ∧ Ch (· = r) w w' := by
  obtain ⟨o, hb, ho⟩ := h.box
  have H := Lib.hid h
  obtain ⟨q1, q2⟩ := hb.cells
  have h1 : decide (bs.length - k < n) = true := by have := h.le; simp; omega
  have HF := Lib.hid (fail_any r _ 0 20 w hb)
  clear h hb
  go_enter Try.func44, Try.ntmps44
  go_wp2_with fail
  refine HF.out.mono ?_
  rintro x w1 ⟨rfl, hb1, c1⟩
  go_wp2
  have hne := H.out.ne
  exact bodyPost_ret (v := .slice none 0 0) (by simp [results, Try.results44, go_sem]) rfl ⟨rfl, ⟨⟨o, by simpa using hb1, ho⟩, H.out.arr.ch c1 (by omega), H.out.le, hne⟩, c1⟩

/-- 'take' of more than there is, or behind an error. -/
theorem take_bad (r g : Nat) (bs : List Nat) (k n : Nat) (e : Int) (w : World) (h : Rd w r g bs k e) (hn : e ≠ 0 ∨ bs.length < k + n) :
    Calls Try.prog 44 #[.pointer (some ⟨r, 0, none⟩), .int .i64 n] w fun x w' => x = .returned (.slice none 0 0) ∧ Rd w' r g bs k (if e = 0 then 20 else e) ∧ Ch (· = r) w w' := by
  by_cases he : e = 0
  · subst he
    simpa using take_short r g bs k n w h (hn.resolve_left (by simp))
  · simpa [he] using take_err r g bs k n e w h he

theorem Rd.err {w : World} {r g : Nat} {bs : List Nat} {k : Nat} {e e2 : Int} {w1 : World} {s : Value} (h : Rd w r g bs k e) (hb : Blk w r #[s, .int .i64 e] 84) (hb1 : Blk w1 r #[s, .int .i64 e2] 84) (c : Ch (· = r) w w1) : Rd w1 r g bs k e2 := by
  obtain ⟨o, h1, h2⟩ := h.box
  have e1 : w.heap[r]? = _ := h1
  rw [show w.heap[r]? = _ from hb] at e1
  simp at e1
  exact ⟨⟨o, by rw [← e1]; exact hb1, h2⟩, h.arr.ch c (by have := h.ne; omega), h.le, h.ne⟩
/-- 'fail' of a reader. -/
theorem rfail (r g : Nat) (bs : List Nat) (k : Nat) (e e2 : Int) (w : World) (h : Rd w r g bs k e) :
    Calls Try.prog 45 #[.pointer (some ⟨r, 0, none⟩), .int .i64 e2] w fun x w' => x = .returned (.tuple #[]) ∧ Rd w' r g bs k (if e = 0 then e2 else e) ∧ Ch (· = r) w w' := by
  obtain ⟨o, hb, ho⟩ := h.box
  refine (fail_any r _ e e2 w hb).mono ?_
  rintro x w1 ⟨rfl, hb1, c1⟩
  exact ⟨rfl, h.err hb hb1 c1, c1⟩

set_option maxRecDepth 100000 in
theorem end_any (r g : Nat) (bs : List Nat) (k : Nat) (e : Int) (w : World) (h : Rd w r g bs k e) :
    Calls Try.prog 35 #[.pointer (some ⟨r, 0, none⟩)] w fun x w' => x = .returned (.int .i64 (if e = 0 then (if k = bs.length then 0 else 22) else e)) ∧ Below w.heap.size w w' := by
  obtain ⟨o, hb, ho⟩ := h.box
  obtain ⟨q1, q2⟩ := hb.cells
  have hle := h.le
  clear h hb ho
  by_cases he : e = 0
  · subst he
    by_cases hk : k = bs.length
    · have h1 : decide (0 < ((bs.length - k : Nat) : Int)) = false := by simp; omega
      go_enter Try.func35, Try.ntmps35
      go_wp2
      go_ret
      exact ⟨by simp [hk], Ch.below (by (repeat (first | with_reducible assumption | with_reducible exact Ch.refl _ _ | with_reducible refine Ch.drew ?_ | with_reducible refine Ch.alloc ?_ _ | (with_reducible refine Ch.set' ?_ ?_; focus (first | (right; rfl; done) | (left; simp; done) | (left; simp; omega) | (left; omega) | (right; simp; done) | (right; simp; omega))))))⟩
    · have h1 : decide (0 < ((bs.length - k : Nat) : Int)) = true := by simp; omega
      go_enter Try.func35, Try.ntmps35
      go_wp2
      go_ret
      exact ⟨by simp [hk], Ch.below (by (repeat (first | with_reducible assumption | with_reducible exact Ch.refl _ _ | with_reducible refine Ch.drew ?_ | with_reducible refine Ch.alloc ?_ _ | (with_reducible refine Ch.set' ?_ ?_; focus (first | (right; rfl; done) | (left; simp; done) | (left; simp; omega) | (left; omega) | (right; simp; done) | (right; simp; omega))))))⟩
  · have h1 : (e == 0) = false := by simp [he]
    go_enter Try.func35, Try.ntmps35
    go_wp2
    go_ret
    exact ⟨by simp [he], Ch.below (by (repeat (first | with_reducible assumption | with_reducible exact Ch.refl _ _ | with_reducible refine Ch.drew ?_ | with_reducible refine Ch.alloc ?_ _ | (with_reducible refine Ch.set' ?_ ?_; focus (first | (right; rfl; done) | (left; simp; done) | (left; simp; omega) | (left; omega) | (right; simp; done) | (right; simp; omega))))))⟩
end Go.Proofs.Ythknfikjanoflaa
