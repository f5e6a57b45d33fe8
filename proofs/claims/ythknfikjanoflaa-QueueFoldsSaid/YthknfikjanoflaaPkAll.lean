/- The reader of pack: its memory, and its methods fail, take, Left, Err, End. And more of that kind. -/
import Derived.Test.YthknfikjanoflaaBase
import Derived.Test.YthknfikjanoflaaChecked
import Derived.LoopN
import Derived.Lib.EndianBits
import Derived.WalkMore
import Derived.Deep.AppendLies
import Derived.Test.YthknfikjanoflaaOpen
import Derived.Laws.CopyRow
import Derived.Laws.OwnMore
import Derived.Laws.IdiomCopy
import Derived.Lib.AppendStr
import Derived.Lib.BufferRead
import Derived.Lib.ConvBytes
set_option linter.unusedVariables false
set_option linter.unusedSimpArgs false
namespace Go.Proofs.Ythknfikjanoflaa
/-! The reader of pack: its memory, and its methods fail, take, Left, Err, End. -/
section

open Go.RowKit

/-- A byte as a value. -/
def by8 (b : Nat) : Value := .int .u8 (b : Int)

/-- A reader: its block r, its own array's block g, all its bytes, how many of them are read, its error. (At the array's end what is left may lie at any place.) -/
structure Rd (w : World) (r g : Nat) (bs : List Nat) (k : Nat) (e : Int) : Prop where
  box : ∃ o, Blk w r #[.slice (some ⟨g, o, none⟩) (bs.length - k) (bs.length - k), .int .i64 e] 84 ∧ (k < bs.length → o = k)
  arr : Blk w g (bs.map by8).toArray 5
  le : k ≤ bs.length
  ne : r ≠ g

theorem Rd.ch {w w1 : World} {r g : Nat} {bs : List Nat} {k : Nat} {e : Int} {S : Nat → Prop} (h : Rd w r g bs k e) (hc : Ch S w w1) (hr : ¬ S r) (hg : ¬ S g) : Rd w1 r g bs k e :=
  ⟨by obtain ⟨o, h1, h2⟩ := h.box; exact ⟨o, h1.ch hc hr, h2⟩, h.arr.ch hc hg, h.le, h.ne⟩
theorem Rd.below {w w1 : World} {r g : Nat} {bs : List Nat} {k : Nat} {e : Int} (h : Rd w r g bs k e) (hb : Below w.heap.size w w1) : Rd w1 r g bs k e := h.ch (Ch.of_below (fun _ => False) hb) id id
theorem Rd.alloc {w : World} {r g : Nat} {bs : List Nat} {k : Nat} {e : Int} (h : Rd w r g bs k e) (o : Obj) : Rd (w.alloc o) r g bs k e := h.below (below1 w o)
theorem Rd.drew {w : World} {r g : Nat} {bs : List Nat} {k : Nat} {e : Int} (h : Rd w r g bs k e) : Rd w.drew r g bs k e := h.ch (Ch.drew (Ch.refl (fun _ => False) w)) id id
theorem Rd.lt {w : World} {r g : Nat} {bs : List Nat} {k : Nat} {e : Int} (h : Rd w r g bs k e) : r < w.heap.size ∧ g < w.heap.size := ⟨by obtain ⟨o, h1, _⟩ := h.box; exact h1.lt, h.arr.lt⟩

set_option maxRecDepth 100000 in
theorem fail_any (r : Nat) (s : Value) (e e2 : Int) (w : World) (h : Blk w r #[s, .int .i64 e] 84) :
    Calls Try.prog 45 #[.pointer (some ⟨r, 0, none⟩), .int .i64 e2] w fun x w' => x = .returned (.tuple #[]) ∧ Blk w' r #[s, .int .i64 (if e = 0 then e2 else e)] 84 ∧ Ch (· = r) w w' := by
  have H := Lib.hid h
  obtain ⟨q1, q2⟩ := h.cells
  clear h
  by_cases he : e = 0
  · subst he
    go_enter Try.func45, Try.ntmps45
    go_wp2
    go_end0
    exact ⟨rfl, by simpa using H.out.set 1 (.int .i64 e2), by (repeat (first | with_reducible assumption | with_reducible exact Ch.refl _ _ | with_reducible refine Ch.drew ?_ | with_reducible refine Ch.alloc ?_ _ | (with_reducible refine Ch.set' ?_ ?_; focus (first | (right; rfl; done) | (left; simp; done) | (left; simp; omega) | (left; omega) | (right; simp; done) | (right; simp; omega)))))⟩
  · have h1 : (e == 0) = false := by simp [he]
    go_enter Try.func45, Try.ntmps45
    go_wp2
    go_end0
    exact ⟨rfl, by simpa [he] using H.out, by (repeat (first | with_reducible assumption | with_reducible exact Ch.refl _ _ | with_reducible refine Ch.drew ?_ | with_reducible refine Ch.alloc ?_ _ | (with_reducible refine Ch.set' ?_ ?_; focus (first | (right; rfl; done) | (left; simp; done) | (left; simp; omega) | (left; omega) | (right; simp; done) | (right; simp; omega)))))⟩

/-- What 'take' hands back: n bytes of the array, and it goes on behind them. -/
def TakePost (r g : Nat) (bs : List Nat) (k n : Nat) (w : World) (x : Ending) (w' : World) : Prop :=
  (∃ o c, x = .returned (.slice (some ⟨g, o, none⟩) n c) ∧ (0 < n → o = k)) ∧ Rd w' r g bs (k + n) 0 ∧ Ch (· = r) w w'

set_option maxRecDepth 100000 in
theorem take_ok (r g : Nat) (bs : List Nat) (k n : Nat) (w : World) (h : Rd w r g bs k 0) (hn : k + n ≤ bs.length) (hlen : bs.length ≤ maxLen) :
    Calls Try.prog 44 #[.pointer (some ⟨r, 0, none⟩), .int .i64 n] w (TakePost r g bs k n w) := by
  obtain ⟨o, hb, ho⟩ := h.box
  have HB := Lib.hid hb
  have HO := Lib.hid ho
  have HA := Lib.hid h.arr
  have hne := h.ne
  obtain ⟨q1, q2⟩ := hb.cells
  simp only [maxLen] at hlen
  have h1 : decide (((bs.length - k : Nat) : Int) < (n : Int)) = false := by simp; omega
  have hle := h.le
  clear h hb ho
  go_enter Try.func44, Try.ntmps44
  go_wp2
  · refine bodyPost_ret (v := .slice (some ⟨g, o, none⟩) n (bs.length - k)) (by simp [results, Try.results44, go_sem]; omega) rfl ⟨⟨o, _, rfl, fun h0 => HO.out (by omega)⟩, ⟨⟨o, ?_, fun hk => by omega⟩, HA.out.far (p := ⟨r, 0, none⟩) (by simpa using hne.symm) _, hn, hne⟩, by (repeat (first | with_reducible assumption | with_reducible exact Ch.refl _ _ | with_reducible refine Ch.drew ?_ | with_reducible refine Ch.alloc ?_ _ | (with_reducible refine Ch.set' ?_ ?_; focus (first | (right; rfl; done) | (left; simp; done) | (left; simp; omega) | (left; omega) | (right; simp; done) | (right; simp; omega)))))⟩
    have := HB.out.set 0 (.slice (some ⟨g, o, none⟩) 0 0)
    rw [show bs.length - (k + n) = 0 by omega]
    simpa using this
  · have hk : o = k := HO.out (by omega)
    subst hk
    refine bodyPost_ret (v := .slice (some ⟨g, o, none⟩) n (bs.length - o)) (by simp [results, Try.results44, go_sem]) rfl ⟨⟨o, _, rfl, fun h0 => rfl⟩, ⟨⟨o + n, ?_, fun hk => rfl⟩, HA.out.far (p := ⟨r, 0, none⟩) (by simpa using hne.symm) _, hn, hne⟩, by (repeat (first | with_reducible assumption | with_reducible exact Ch.refl _ _ | with_reducible refine Ch.drew ?_ | with_reducible refine Ch.alloc ?_ _ | (with_reducible refine Ch.set' ?_ ?_; focus (first | (right; rfl; done) | (left; simp; done) | (left; simp; omega) | (left; omega) | (right; simp; done) | (right; simp; omega)))))⟩
    have := HB.out.set 0 (.slice (some ⟨g, o + n, none⟩) (bs.length - o - n) (bs.length - o - n))
    rw [show bs.length - (o + n) = bs.length - o - n by omega]
    simpa using this

set_option maxRecDepth 100000 in
theorem take_err (r g : Nat) (bs : List Nat) (k n : Nat) (e : Int) (w : World) (h : Rd w r g bs k e) (he : e ≠ 0) :
    Calls Try.prog 44 #[.pointer (some ⟨r, 0, none⟩), .int .i64 n] w fun x w' => x = .returned (.slice none 0 0) ∧ Rd w' r g bs k e ∧ Ch (· = r) w w' := by
  obtain ⟨o, hb, ho⟩ := h.box
  have HB := Lib.hid hb
  have H := Lib.hid h
  obtain ⟨q1, q2⟩ := hb.cells
  have h1 : (e == 0) = false := by simp [he]
  have HF := Lib.hid (fail_any r _ e 20 w hb)
  clear h hb
  go_enter Try.func44, Try.ntmps44
  go_wp2_with fail
  refine HF.out.mono ?_
  rintro x w1 ⟨rfl, hb1, c1⟩
  go_wp2
  have hne := H.out.ne
  exact bodyPost_ret (v := .slice none 0 0) (by simp [results, Try.results44, go_sem]) rfl ⟨rfl, ⟨⟨o, by simpa [he] using hb1, ho⟩, H.out.arr.ch c1 (by omega), H.out.le, hne⟩, c1⟩

set_option maxRecDepth 100000 in
theorem take_short (r g : Nat) (bs : List Nat) (k n : Nat) (w : World) (h : Rd w r g bs k 0) (hn : bs.length < k + n) :
    Calls Try.prog 44 #[.pointer (some ⟨r, 0, none⟩), .int .i64 n] w fun x w' => x = .returned (.slice none 0 0) ∧ Rd w' r g bs k 20 ∧ Ch (· = r) w w' := by
  obtain ⟨o, hb, ho⟩ := h.box
  have H := Lib.hid h
  obtain ⟨q1, q2⟩ := hb.cells
  have h1 : decide (bs.length - k < n) = true := by have := h.le; simp; omega
  have HF := Lib.hid (fail_any r _ 0 20 w hb)
  clear h hb
  go_enter Try.func44, Try.ntmps44
  go_wp2_with fail
  refine HF.out.mono ?_
  rintro x w1 ⟨rfl, hb1, c1⟩
  go_wp2
  have hne := H.out.ne
  exact bodyPost_ret (v := .slice none 0 0) (by simp [results, Try.results44, go_sem]) rfl ⟨rfl, ⟨⟨o, by simpa using hb1, ho⟩, H.out.arr.ch c1 (by omega), H.out.le, hne⟩, c1⟩

/-- 'take' of more than there is, or behind an error. -/
theorem take_bad (r g : Nat) (bs : List Nat) (k n : Nat) (e : Int) (w : World) (h : Rd w r g bs k e) (hn : e ≠ 0 ∨ bs.length < k + n) :
    Calls Try.prog 44 #[.pointer (some ⟨r, 0, none⟩), .int .i64 n] w fun x w' => x = .returned (.slice none 0 0) ∧ Rd w' r g bs k (if e = 0 then 20 else e) ∧ Ch (· = r) w w' := by
  by_cases he : e = 0
  · subst he
    simpa using take_short r g bs k n w h (hn.resolve_left (by simp))
  · simpa [he] using take_err r g bs k n e w h he

theorem Rd.err {w : World} {r g : Nat} {bs : List Nat} {k : Nat} {e e2 : Int} {w1 : World} {s : Value} (h : Rd w r g bs k e) (hb : Blk w r #[s, .int .i64 e] 84) (hb1 : Blk w1 r #[s, .int .i64 e2] 84) (c : Ch (· = r) w w1) : Rd w1 r g bs k e2 := by
  obtain ⟨o, h1, h2⟩ := h.box
  have e1 : w.heap[r]? = _ := h1
  rw [show w.heap[r]? = _ from hb] at e1
  simp at e1
  exact ⟨⟨o, by rw [← e1]; exact hb1, h2⟩, h.arr.ch c (by have := h.ne; omega), h.le, h.ne⟩
/-- 'fail' of a reader. -/
theorem rfail (r g : Nat) (bs : List Nat) (k : Nat) (e e2 : Int) (w : World) (h : Rd w r g bs k e) :
    Calls Try.prog 45 #[.pointer (some ⟨r, 0, none⟩), .int .i64 e2] w fun x w' => x = .returned (.tuple #[]) ∧ Rd w' r g bs k (if e = 0 then e2 else e) ∧ Ch (· = r) w w' := by
  obtain ⟨o, hb, ho⟩ := h.box
  refine (fail_any r _ e e2 w hb).mono ?_
  rintro x w1 ⟨rfl, hb1, c1⟩
  exact ⟨rfl, h.err hb hb1 c1, c1⟩

set_option maxRecDepth 100000 in
theorem end_any (r g : Nat) (bs : List Nat) (k : Nat) (e : Int) (w : World) (h : Rd w r g bs k e) :
    Calls Try.prog 35 #[.pointer (some ⟨r, 0, none⟩)] w fun x w' => x = .returned (.int .i64 (if e = 0 then (if k = bs.length then 0 else 22) else e)) ∧ Below w.heap.size w w' := by
  obtain ⟨o, hb, ho⟩ := h.box
  obtain ⟨q1, q2⟩ := hb.cells
  have hle := h.le
  clear h hb ho
  by_cases he : e = 0
  · subst he
    by_cases hk : k = bs.length
    · have h1 : decide (0 < ((bs.length - k : Nat) : Int)) = false := by simp; omega
      go_enter Try.func35, Try.ntmps35
      go_wp2
      go_ret
      exact ⟨by simp [hk], Ch.below (by (repeat (first | with_reducible assumption | with_reducible exact Ch.refl _ _ | with_reducible refine Ch.drew ?_ | with_reducible refine Ch.alloc ?_ _ | (with_reducible refine Ch.set' ?_ ?_; focus (first | (right; rfl; done) | (left; simp; done) | (left; simp; omega) | (left; omega) | (right; simp; done) | (right; simp; omega))))))⟩
    · have h1 : decide (0 < ((bs.length - k : Nat) : Int)) = true := by simp; omega
      go_enter Try.func35, Try.ntmps35
      go_wp2
      go_ret
      exact ⟨by simp [hk], Ch.below (by (repeat (first | with_reducible assumption | with_reducible exact Ch.refl _ _ | with_reducible refine Ch.drew ?_ | with_reducible refine Ch.alloc ?_ _ | (with_reducible refine Ch.set' ?_ ?_; focus (first | (right; rfl; done) | (left; simp; done) | (left; simp; omega) | (left; omega) | (right; simp; done) | (right; simp; omega))))))⟩
  · have h1 : (e == 0) = false := by simp [he]
    go_enter Try.func35, Try.ntmps35
    go_wp2
    go_ret
    exact ⟨by simp [he], Ch.below (by (repeat (first | with_reducible assumption | with_reducible exact Ch.refl _ _ | with_reducible refine Ch.drew ?_ | with_reducible refine Ch.alloc ?_ _ | (with_reducible refine Ch.set' ?_ ?_; focus (first | (right; rfl; done) | (left; simp; done) | (left; simp; omega) | (left; omega) | (right; simp; done) | (right; simp; omega))))))⟩
end

/-! The reader's Num: its closure, and one round after the other. -/
section

open Go.RowKit

set_option maxRecDepth 100000 in
/-- 'right' of one number. -/
theorem right_one (b : Nat) (n : Int) (t : Nat) (w : World) (h : Blk w b #[.int .i64 n] t) :
    Calls Try.prog 42 #[.slice (some ⟨b, 0, none⟩) 1 1] w fun x w' => x = .returned (.bool (decide (0 ≤ n) && decide (n ≤ 4611686018427387904))) ∧ Below w.heap.size w w' := by
  obtain ⟨q1, q2⟩ := h.cells
  clear h
  by_cases h0 : n < 0
  · have h1 : decide (n < 0) = true := by simpa using h0
    go_enter Try.func42, Try.ntmps42
    go_wp2
    refine wp_loop_rounds 2 ?_
    rw [rounds_succ]
    go_wp2
    go_ret
    exact ⟨by simp; omega, Ch.below (by (repeat (first | with_reducible assumption | with_reducible exact Ch.refl _ _ | with_reducible refine Ch.drew ?_ | with_reducible refine Ch.alloc ?_ _ | (with_reducible refine Ch.set' ?_ ?_; focus (first | (right; rfl; done) | (left; simp; done) | (left; simp; omega) | (left; omega) | (right; simp; done) | (right; simp; omega))))))⟩
  · have h1 : decide (n < 0) = false := by simpa using h0
    by_cases h2 : 4611686018427387904 < n
    · have h3 : decide (4611686018427387904 < n) = true := by simpa using h2
      go_enter Try.func42, Try.ntmps42
      go_wp2
      refine wp_loop_rounds 2 ?_
      rw [rounds_succ]
      go_wp2
      go_ret
      exact ⟨by simp; omega, Ch.below (by (repeat (first | with_reducible assumption | with_reducible exact Ch.refl _ _ | with_reducible refine Ch.drew ?_ | with_reducible refine Ch.alloc ?_ _ | (with_reducible refine Ch.set' ?_ ?_; focus (first | (right; rfl; done) | (left; simp; done) | (left; simp; omega) | (left; omega) | (right; simp; done) | (right; simp; omega))))))⟩
    · have h3 : decide (4611686018427387904 < n) = false := by simpa using h2
      go_enter Try.func42, Try.ntmps42
      go_wp2
      refine wp_loop_rounds 2 ?_
      rw [rounds_succ]
      go_wp2
      rw [rounds_succ]
      go_wp2
      go_ret
      exact ⟨by simp; omega, Ch.below (by (repeat (first | with_reducible assumption | with_reducible exact Ch.refl _ _ | with_reducible refine Ch.drew ?_ | with_reducible refine Ch.alloc ?_ _ | (with_reducible refine Ch.set' ?_ ?_; focus (first | (right; rfl; done) | (left; simp; done) | (left; simp; omega) | (left; omega) | (right; simp; done) | (right; simp; omega))))))⟩

/-- What the closure 'next' hands back. -/
def NextPost (r g : Nat) (bs : List Nat) (k : Nat) (w : World) (x : Ending) (w' : World) : Prop :=
  (∃ b, bs[k]? = some b ∧ x = .returned (.tuple #[by8 b, .bool true])) ∧ Rd w' r g bs (k + 1) 0 ∧ Ch (· = r) w w'

set_option maxRecDepth 100000 in
theorem next_ok (p r g : Nat) (bs : List Nat) (k : Nat) (w : World) (h : Rd w r g bs k 0) (hp : Blk w p #[.pointer (some ⟨r, 0, none⟩)] 56) (hk : k < bs.length) (hlen : bs.length ≤ maxLen) :
    Calls Try.prog 43 #[.pointer (some ⟨p, 0, none⟩)] w (NextPost r g bs k w) := by
  have HT := Lib.hid (take_ok r g bs k 1 w h (by omega) hlen)
  obtain ⟨q1, q2⟩ := hp.cells
  have HK := Lib.hid hk
  clear h hp hk hlen
  go_enter Try.func43, Try.ntmps43
  go_wp2_with fail
  refine HT.out.mono ?_
  rintro x w1 ⟨⟨o, c, rfl, ho⟩, R1, c1⟩
  have ho' := ho (by omega)
  subst ho'
  obtain ⟨b, hb⟩ : ∃ b, bs[o]? = some b := ⟨_, List.getElem?_eq_getElem HK.out⟩
  have hcell : w1.cell? ⟨g, o, none⟩ = some (by8 b) := by rw [R1.arr.cell]; simp [hb]
  have HR := Lib.hid R1
  have HB := Lib.hid hb
  clear ho R1 hb HT
  go_wp2
  refine bodyPost_ret (v := .tuple #[by8 b, .bool true]) (by simp [results, Try.results43, go_sem]) rfl ⟨⟨b, HB.out, rfl⟩, HR.out, c1⟩

def NextBad (r g : Nat) (bs : List Nat) (k : Nat) (e : Int) (w : World) (x : Ending) (w' : World) : Prop :=
  x = .returned (.tuple #[.int .u8 0, .bool false]) ∧ Rd w' r g bs k e ∧ Ch (· = r) w w'

set_option maxRecDepth 100000 in
theorem next_bad (p r g : Nat) (bs : List Nat) (k : Nat) (e : Int) (w : World) (h : Rd w r g bs k e) (hp : Blk w p #[.pointer (some ⟨r, 0, none⟩)] 56) (hk : e ≠ 0 ∨ k = bs.length) :
    Calls Try.prog 43 #[.pointer (some ⟨p, 0, none⟩)] w (NextBad r g bs k (if e = 0 then 20 else e) w) := by
  have ht := take_bad r g bs k 1 e w h (by omega)
  obtain ⟨e2, he2⟩ : ∃ e2, e2 = (if e = 0 then 20 else e) := ⟨_, rfl⟩
  rw [← he2] at ht ⊢
  have HT := Lib.hid ht
  obtain ⟨q1, q2⟩ := hp.cells
  clear h hp hk ht he2
  go_enter Try.func43, Try.ntmps43
  go_wp2_with fail
  refine HT.out.mono ?_
  rintro x w1 ⟨rfl, R1, c1⟩
  have HR := Lib.hid R1
  clear R1
  go_wp2
  exact bodyPost_ret (v := .tuple #[.int .u8 0, .bool false]) (by simp [results, Try.results43, go_sem]) rfl ⟨rfl, HR.out, c1⟩
end

/-! The reader's Num. -/
section

open Go.RowKit

theorem wrap64_id (n : Int) (h0 : 0 ≤ n) (h1 : n < 2^63) : wrap64 n = n := by unfold wrap64; omega
set_option maxRecDepth 100000 in
theorem and127 (b : Nat) (h : b < 256) : bits BinOp.and IntKind.u8 (b : Int) 127 = ((b % 128 : Nat) : Int) := by
  have : ∀ x : Fin 256, bits BinOp.and IntKind.u8 ((x.1 : Nat) : Int) 127 = ((x.1 % 128 : Nat) : Int) := by decide
  exact this ⟨b, h⟩
theorem i64_wrap (n : Int) (h0 : 0 ≤ n) (h1 : n < 2^63) : IntKind.i64.wrap n = n := by 
  simp [IntKind.wrap, IntKind.bits, IntKind.signed]; omega
theorem or_num (n b j : Nat) (hj : j ≤ 8) (hn : n < 128 ^ j) (hb : b < 256) : bits BinOp.or IntKind.i64 (n : Int) (wrap64 (wrap64 (bits BinOp.and IntKind.u8 (b : Int) 127) * 2 ^ (7 * j))) = ((n + (b % 128) * 128 ^ j : Nat) : Int) := by
  rw [and127 b hb, wrap64_id ((b % 128 : Nat) : Int) (by omega) (by omega)]
  have e : (128 : Nat) ^ j = 2 ^ (7 * j) := by rw [Nat.pow_mul]
  have hp : (2 : Nat) ^ (7 * j) ≤ 2 ^ 56 := Nat.pow_le_pow_right (by omega) (by omega)
  have hm : (b % 128) * 2 ^ (7 * j) ≤ 127 * 2 ^ 56 := Nat.mul_le_mul (by omega) hp
  have ec : (((b % 128 : Nat) : Int) * 2 ^ (7 * j)) = (((b % 128) * 2 ^ (7 * j) : Nat) : Int) := by push_cast; rfl
  rw [ec, wrap64_id _ (by omega) (by omega)]
  rw [bits_join_low IntKind.i64 63 (by decide) (fun n h0 h1 => i64_wrap n h0 h1) (7 * j) _ _ (by omega) (by rw [e] at hn; exact_mod_cast hn) (by rw [e] at hn; omega) (by omega) (by rw [← ec]; exact Int.mul_emod_left _ _) (by omega), e]
  push_cast
  rfl

/-- A number's bytes, from the j-th on, with what the earlier ones gave: the number, how many bytes were taken, the error. -/
def scan : Nat → Nat → List Nat → Nat × Nat × Int
  | _, _, [] => (0, 0, 20)
  | j, n, x :: l =>
    if x < 128 then (if x = 0 ∧ 0 < j then (0, 1, 21) else (n + x * 128 ^ j, 1, 0))
    else if j = 8 then (0, 1, 21)
    else ((scan (j + 1) (n + (x - 128) * 128 ^ j) l).1, (scan (j + 1) (n + (x - 128) * 128 ^ j) l).2.1 + 1, (scan (j + 1) (n + (x - 128) * 128 ^ j) l).2.2)

/-- What Num reads: the number, how many bytes, the error. -/
def numF (limit : Int) (l : List Nat) : Nat × Nat × Int :=
  if (scan 0 0 l).2.2 = 0 ∧ ((scan 0 0 l).1 ≤ 4611686018427387904 ∧ ((scan 0 0 l).1 : Int) ≤ limit) then ((scan 0 0 l).1, (scan 0 0 l).2.1, 0)
  else (0, (scan 0 0 l).2.1, if (scan 0 0 l).2.2 = 0 then 21 else (scan 0 0 l).2.2)

/-- At the head of Num's loop: j bytes are read. -/
def NumAt (w0 : World) (r g : Nat) (bs : List Nat) (k : Nat) (gk : Nat) (v5 v6 : Value) (w : World) : Prop :=
  ∃ j n, j + gk = 9 ∧ j ≤ 8 ∧ n < 128 ^ j ∧ v5 = .int .i64 (n : Nat) ∧ v6 = .int .i64 (j : Nat) ∧ Rd w r g bs (k + j) 0 ∧ Blk w w0.heap.size #[.pointer (some ⟨r, 0, none⟩)] 56 ∧
    scan 0 0 (bs.drop k) = ((scan j n (bs.drop (k + j))).1, (scan j n (bs.drop (k + j))).2.1 + j, (scan j n (bs.drop (k + j))).2.2) ∧ Ch (· = r) w0 w

/-- What Num does. -/
def NumPost (r g : Nat) (bs : List Nat) (k : Nat) (limit : Int) (w : World) (x : Ending) (w' : World) : Prop :=
  x = .returned (.int .i64 ((numF limit (bs.drop k)).1 : Nat)) ∧ Rd w' r g bs (k + (numF limit (bs.drop k)).2.1) (numF limit (bs.drop k)).2.2 ∧ Ch (· = r) w w'

theorem drop_at {bs : List Nat} {i b : Nat} (h : bs[i]? = some b) : bs.drop i = b :: bs.drop (i + 1) := by
  obtain ⟨hi, rfl⟩ := List.getElem?_eq_some_iff.1 h
  exact List.drop_eq_getElem_cons hi
theorem numF_err {limit : Int} {l : List Nat} {v c : Nat} {e : Int} (h : scan 0 0 l = (v, c, e)) (he : e ≠ 0) : numF limit l = (0, c, e) := by
  unfold numF
  rw [h]
  simp [he]
theorem numF_ok {limit : Int} {l : List Nat} {v c : Nat} (h : scan 0 0 l = (v, c, 0)) (h1 : v ≤ 4611686018427387904) (h2 : (v : Int) ≤ limit) : numF limit l = (v, c, 0) := by
  unfold numF
  rw [h]
  simp [h1, h2]
theorem numF_form {limit : Int} {l : List Nat} {v c : Nat} (h : scan 0 0 l = (v, c, 0)) (h1 : ¬ (v ≤ 4611686018427387904 ∧ (v : Int) ≤ limit)) : numF limit l = (0, c, 21) := by
  unfold numF
  rw [h]
  simp only [h1, and_false, if_false, if_true]
theorem NumPost.of {r g : Nat} {bs : List Nat} {k : Nat} {limit : Int} {w w' : World} {x : Ending} {v c : Nat} {e : Int} (h : numF limit (bs.drop k) = (v, c, e)) (hx : x = .returned (.int .i64 (v : Nat))) (hr : Rd w' r g bs (k + c) e) (hc : Ch (· = r) w w') : NumPost r g bs k limit w x w' := by
  unfold NumPost
  rw [h]
  exact ⟨hx, hr, hc⟩
theorem scan_form {j n b : Nat} {l : List Nat} (h : (b = 0 ∧ 0 < j) ∨ (128 ≤ b ∧ j = 8)) : scan j n (b :: l) = (0, 1, 21) := by
  unfold scan
  rcases h with ⟨rfl, hj⟩ | ⟨hb, rfl⟩
  · simp [hj]
  · rw [if_neg (by omega), if_pos rfl]
theorem scan_done {j n b : Nat} {l : List Nat} (h : b < 128) (h2 : ¬ (b = 0 ∧ 0 < j)) : scan j n (b :: l) = (n + (b % 128) * 128 ^ j, 1, 0) := by
  unfold scan
  rw [if_pos h, if_neg h2, Nat.mod_eq_of_lt h]
theorem scan_more {j n b : Nat} {l : List Nat} (h : 128 ≤ b) (hb : b < 256) (h2 : j ≠ 8) : scan j n (b :: l) = ((scan (j + 1) (n + (b % 128) * 128 ^ j) l).1, (scan (j + 1) (n + (b % 128) * 128 ^ j) l).2.1 + 1, (scan (j + 1) (n + (b % 128) * 128 ^ j) l).2.2) := by
  have e : b % 128 = b - 128 := by omega
  rw [e]
  conv => lhs; unfold scan
  rw [if_neg (by omega), if_neg h2]

theorem next_enter (caps : Array Value) (w : World) : (callFunc 43 caps).run Try.prog w = .ok (.enter 43 caps) w := by go_simp

attribute [local go_sem] by8
set_option maxRecDepth 100000 in
set_option maxHeartbeats 4000000 in
theorem num_ok (r g : Nat) (bs : List Nat) (k : Nat) (limit : Int) (w : World) (h : Rd w r g bs k 0) (hb : ∀ b ∈ bs, b < 256) (hlen : bs.length ≤ maxLen) :
    Calls Try.prog 33 #[.pointer (some ⟨r, 0, none⟩), .int .i64 limit] w (NumPost r g bs k limit w) := by
  have H1 := Lib.hid (h.alloc (.cells #[.pointer (some ⟨r, 0, none⟩)] 56))
  have H2 := Lib.hid (Blk.new w #[.pointer (some ⟨r, 0, none⟩)] 56)
  have H3 := Lib.hid ((Ch.refl (· = r) w).alloc (.cells #[.pointer (some ⟨r, 0, none⟩)] 56))
  have HB := Lib.hid hb
  have hlts := h.lt
  have hmf : ∀ (fn : Fn) (first cap : Array Value) (w : World), (Instr.makeFunc fn first cap).run Try.prog w = .ok (.func fn first cap) w := fun _ _ _ _ => rfl
  clear h hb
  go_enter Try.func33, Try.ntmps33
  go_wp2_with fail
  go_step3
  go_wp2_with fail
  go_step3
  go_wp2_with fail
  go_loopg [5, 6] 9 (fun gk v5 v6 wr => NumAt w r g bs k gk v5 v6 wr)
  case atStart => exact ⟨0, 0, rfl, by omega, by simp, rfl, rfl, H1.out, H2.out, by simp, H3.out⟩
  case round =>
    obtain ⟨j, n, hj, hj8, hn, rfl, rfl, R, B, hs, C⟩ := hrel
    have HS := Lib.hid hs
    by_cases hkl : k + j < bs.length
    · have HN := Lib.hid (next_ok w.heap.size r g bs (k + j) wr R B hkl hlen)
      have HBB := Lib.hid B
      have HC := Lib.hid C
      have hne : w.heap.size ≠ r := by omega
      clear R B hs C
      go_wp2_with fail
      refine HN.out.mono ?_
      rintro x w2 ⟨⟨b, hbk, rfl⟩, R2, c2⟩
      have HR2 := Lib.hid R2
      have HC2 := Lib.hid (HC.out.trans c2)
      have HBB2 := Lib.hid (HBB.out.ch c2 hne)
      have hb8 : b < 256 := HB.out b (List.mem_of_getElem? hbk)
      have HBK := Lib.hid hbk
      clear R2 c2 HN HC HBB hbk
      obtain ⟨q1, q2⟩ := HBB2.out.cells
      obtain ⟨n2, hn2⟩ : ∃ n2, n2 = n + (b % 128) * 128 ^ j := ⟨_, rfl⟩
      have hval := or_num n b j hj8 hn hb8
      rw [← hn2] at hval
      have HN2 := Lib.hid hn2
      clear hn2
      by_cases hx : b < 128
      · have hx1 : decide ((b : Int) < 128) = true := by simp; omega
        have hx2 : decide (b < 128) = true := by simp; omega
        by_cases hj0 : 0 < j
        · have hj1 : decide (1 < (j : Int) + 1) = true := by simp; omega
          by_cases hb0 : b = 0
          · subst hb0
            have HF := Lib.hid (rfail r g bs (k + j + 1) 0 21 w2 HR2.out)
            go_wp2_with fail
            refine HF.out.mono ?_
            rintro x w3 ⟨rfl, R3, c3⟩
            have HR3 := Lib.hid R3
            have HC3 := Lib.hid (HC2.out.trans c3)
            clear R3 c3
            go_wp2_with fail
            go_ret
            refine NumPost.of (numF_err (e := 21) (HS.out.trans (by rw [drop_at HBK.out, scan_form (.inl ⟨rfl, hj0⟩)])) (by decide)) rfl ?_ HC3.out
            have := HR3.out
            rw [show k + (1 + j) = k + j + 1 by omega]
            simpa using this
          · have hb1 : ((b : Int) == 0) = false := by simp; omega
            have hsc : scan 0 0 (bs.drop k) = (n2, 1 + j, 0) := by
              rw [HS.out, drop_at HBK.out, scan_done hx (by omega), HN2.out]
            have HSC := Lib.hid hsc
            have R3 := Lib.hid (HR2.out.alloc (.cells #[.int .i64 (n2 : Int)] 3))
            have C3 := Lib.hid (HC2.out.alloc (.cells #[.int .i64 (n2 : Int)] 3))
            have B3 := Lib.hid (HBB2.out.alloc (.cells #[.int .i64 (n2 : Int)] 3))
            have HRT := right_one w2.heap.size (n2 : Int) 3 _ (Blk.new w2 #[.int .i64 (n2 : Int)] 3)
            clear hsc HR2 HC2 HBB2 q1 q2 HS
            by_cases h62 : n2 ≤ 4611686018427387904
            · rw [show (decide (0 ≤ (n2 : Int)) && decide ((n2 : Int) ≤ 4611686018427387904)) = true by simp; omega] at HRT
              have HRT' := Lib.hid HRT
              clear HRT
              by_cases hlim : (n2 : Int) ≤ limit
              · have hl1 : decide (limit < (n2 : Int)) = false := by simp; omega
                go_wp2_with fail
                refine HRT'.out.mono ?_
                rintro x w3 ⟨rfl, hb3⟩
                have R4 := Lib.hid (R3.out.below hb3)
                have C4 := Lib.hid (C3.out.call hb3)
                go_wp2_with fail
                go_ret
                refine NumPost.of (numF_ok HSC.out h62 hlim) rfl ?_ C4.out
                have := R4.out
                rw [show k + (1 + j) = k + j + 1 by omega]
                exact this
              · have hl1 : decide (limit < (n2 : Int)) = true := by simp; omega
                go_wp2_with fail
                refine HRT'.out.mono ?_
                rintro x w3 ⟨rfl, hb3⟩
                have R4 := R3.out.below hb3
                have C4 := Lib.hid (C3.out.call hb3)
                obtain ⟨q1, q2⟩ := (B3.out.below hb3).cells
                have HF := Lib.hid (rfail r g bs (k + j + 1) 0 21 w3 R4)
                clear R4
                go_wp2_with fail
                refine HF.out.mono ?_
                rintro x w4 ⟨rfl, R5, c5⟩
                have HR5 := Lib.hid R5
                have HC5 := Lib.hid (C4.out.trans c5)
                clear R5 c5
                go_wp2_with fail
                go_ret
                refine NumPost.of (numF_form HSC.out (by omega)) rfl ?_ HC5.out
                have := HR5.out
                rw [show k + (1 + j) = k + j + 1 by omega]
                simpa using this
            · rw [show (decide (0 ≤ (n2 : Int)) && decide ((n2 : Int) ≤ 4611686018427387904)) = false by simp; omega] at HRT
              have HRT' := Lib.hid HRT
              clear HRT
              go_wp2_with fail
              refine HRT'.out.mono ?_
              rintro x w3 ⟨rfl, hb3⟩
              have R4 := R3.out.below hb3
              have C4 := Lib.hid (C3.out.call hb3)
              obtain ⟨q1, q2⟩ := (B3.out.below hb3).cells
              have HF := Lib.hid (rfail r g bs (k + j + 1) 0 21 w3 R4)
              clear R4
              go_wp2_with fail
              refine HF.out.mono ?_
              rintro x w4 ⟨rfl, R5, c5⟩
              have HR5 := Lib.hid R5
              have HC5 := Lib.hid (C4.out.trans c5)
              clear R5 c5
              go_wp2_with fail
              go_ret
              refine NumPost.of (numF_form HSC.out (by omega)) rfl ?_ HC5.out
              have := HR5.out
              rw [show k + (1 + j) = k + j + 1 by omega]
              simpa using this
        · have hj1 : decide (1 < (j : Int) + 1) = false := by simp; omega
          have hsc : scan 0 0 (bs.drop k) = (n2, 1 + j, 0) := by
            rw [HS.out, drop_at HBK.out, scan_done hx (by omega), HN2.out]
          have HSC := Lib.hid hsc
          have R3 := Lib.hid (HR2.out.alloc (.cells #[.int .i64 (n2 : Int)] 3))
          have C3 := Lib.hid (HC2.out.alloc (.cells #[.int .i64 (n2 : Int)] 3))
          have B3 := Lib.hid (HBB2.out.alloc (.cells #[.int .i64 (n2 : Int)] 3))
          have HRT := right_one w2.heap.size (n2 : Int) 3 _ (Blk.new w2 #[.int .i64 (n2 : Int)] 3)
          clear hsc HR2 HC2 HBB2 q1 q2 HS
          by_cases h62 : n2 ≤ 4611686018427387904
          · rw [show (decide (0 ≤ (n2 : Int)) && decide ((n2 : Int) ≤ 4611686018427387904)) = true by simp; omega] at HRT
            have HRT' := Lib.hid HRT
            clear HRT
            by_cases hlim : (n2 : Int) ≤ limit
            · have hl1 : decide (limit < (n2 : Int)) = false := by simp; omega
              go_wp2_with fail
              refine HRT'.out.mono ?_
              rintro x w3 ⟨rfl, hb3⟩
              have R4 := Lib.hid (R3.out.below hb3)
              have C4 := Lib.hid (C3.out.call hb3)
              go_wp2_with fail
              go_ret
              refine NumPost.of (numF_ok HSC.out h62 hlim) rfl ?_ C4.out
              have := R4.out
              rw [show k + (1 + j) = k + j + 1 by omega]
              exact this
            · have hl1 : decide (limit < (n2 : Int)) = true := by simp; omega
              go_wp2_with fail
              refine HRT'.out.mono ?_
              rintro x w3 ⟨rfl, hb3⟩
              have R4 := R3.out.below hb3
              have C4 := Lib.hid (C3.out.call hb3)
              obtain ⟨q1, q2⟩ := (B3.out.below hb3).cells
              have HF := Lib.hid (rfail r g bs (k + j + 1) 0 21 w3 R4)
              clear R4
              go_wp2_with fail
              refine HF.out.mono ?_
              rintro x w4 ⟨rfl, R5, c5⟩
              have HR5 := Lib.hid R5
              have HC5 := Lib.hid (C4.out.trans c5)
              clear R5 c5
              go_wp2_with fail
              go_ret
              refine NumPost.of (numF_form HSC.out (by omega)) rfl ?_ HC5.out
              have := HR5.out
              rw [show k + (1 + j) = k + j + 1 by omega]
              simpa using this
          · rw [show (decide (0 ≤ (n2 : Int)) && decide ((n2 : Int) ≤ 4611686018427387904)) = false by simp; omega] at HRT
            have HRT' := Lib.hid HRT
            clear HRT
            go_wp2_with fail
            refine HRT'.out.mono ?_
            rintro x w3 ⟨rfl, hb3⟩
            have R4 := R3.out.below hb3
            have C4 := Lib.hid (C3.out.call hb3)
            obtain ⟨q1, q2⟩ := (B3.out.below hb3).cells
            have HF := Lib.hid (rfail r g bs (k + j + 1) 0 21 w3 R4)
            clear R4
            go_wp2_with fail
            refine HF.out.mono ?_
            rintro x w4 ⟨rfl, R5, c5⟩
            have HR5 := Lib.hid R5
            have HC5 := Lib.hid (C4.out.trans c5)
            clear R5 c5
            go_wp2_with fail
            go_ret
            refine NumPost.of (numF_form HSC.out (by omega)) rfl ?_ HC5.out
            have := HR5.out
            rw [show k + (1 + j) = k + j + 1 by omega]
            simpa using this
      · have hx1 : decide ((b : Int) < 128) = false := by simp; omega
        have hx2 : decide (b < 128) = false := by simp; omega
        have hj2 : decide (128 ≤ b) = true := by simp; omega
        by_cases hj8' : j = 8
        · have hj1 : ((j : Int) + 1 == 9) = true := by simp; omega
          have HF := Lib.hid (rfail r g bs (k + j + 1) 0 21 w2 HR2.out)
          go_wp2_with fail
          refine HF.out.mono ?_
          rintro x w3 ⟨rfl, R3, c3⟩
          have HR3 := Lib.hid R3
          have HC3 := Lib.hid (HC2.out.trans c3)
          clear R3 c3
          go_wp2_with fail
          go_ret
          refine NumPost.of (numF_err (e := 21) (HS.out.trans (by rw [drop_at HBK.out, scan_form (.inr ⟨by omega, hj8'⟩)])) (by decide)) rfl ?_ HC3.out
          have := HR3.out
          rw [show k + (1 + j) = k + j + 1 by omega]
          simpa using this
        · have hj1 : ((j : Int) + 1 == 9) = false := by simp; omega
          go_wp2_with fail
          go_roundg (gk - 1)
          case measure => omega
          case rel =>
            have hlt : n2 < 128 ^ (j + 1) := by
              rw [HN2.out, Nat.pow_succ]
              have : (b % 128) * 128 ^ j ≤ 127 * 128 ^ j := Nat.mul_le_mul_right _ (by omega)
              omega
            refine ⟨j + 1, n2, by omega, by omega, hlt, rfl, by simp, HR2.out, HBB2.out, ?_, HC2.out⟩
            rw [HS.out, drop_at HBK.out, scan_more (by omega) hb8 hj8', ← HN2.out]
            simp only [Nat.add_assoc, Nat.add_comm]
    · have hkl' : k + j = bs.length := by have := R.le; omega
      have HN := next_bad w.heap.size r g bs (k + j) 0 wr R B (.inr hkl')
      rw [if_pos rfl] at HN
      have HN' := Lib.hid HN
      have HC := Lib.hid C
      clear R B hs C HN
      go_wp2_with fail
      refine HN'.out.mono ?_
      rintro x w2 ⟨rfl, R2, c2⟩
      have HR2 := Lib.hid R2
      have HC2 := Lib.hid (HC.out.trans c2)
      clear R2 c2 HN' HC
      go_wp2_with fail
      go_ret
      refine NumPost.of (c := j) (numF_err (e := 20) (v := 0) (HS.out.trans (by rw [List.drop_eq_nil_of_le (by omega)]; simp [scan])) (by decide)) rfl HR2.out HC2.out
end

/-! pack.Num: a number behind a row of bytes of the call's own. -/
section

open Go.RowKit

/-- A row of bytes of the call's own. -/
def BRow (w : World) (base : Nat) (v : Value) (bs : List Nat) : Prop := w.ownsRow base 5 1 v bs.length (bs.map by8)

theorem BRow.ch {w w1 : World} {base : Nat} {v : Value} {bs : List Nat} {S : Nat → Prop} (h : BRow w base v bs) (hc : Ch S w w1) (hv : ∀ g, v.ownBlock = some g → ¬ S g) : BRow w1 base v bs :=
  ⟨h.1, by
    rcases h.2 with h2 | ⟨g, cap, cur, e, hg, hh, r⟩
    · exact .inl h2
    · exact .inr ⟨g, cap, cur, e, hg, (hc.block g (lt_of_block hh) (hv g (by rw [e]; rfl))).trans hh, r⟩⟩
theorem BRow.below {w w1 : World} {base : Nat} {v : Value} {bs : List Nat} (h : BRow w base v bs) (hb : Below w.heap.size w w1) : BRow w1 base v bs := h.ch (Ch.of_below (fun _ => False) hb) (fun _ _ => id)

/-- The document's bytes of a number. -/
def encN (n : Nat) : List Nat := if n < 128 then [n] else (n % 128 + 128) :: encN (n / 128)
termination_by n
decreasing_by omega

theorem encN_small {n : Nat} (h : n < 128) : encN n = [n] := by rw [encN, if_pos h]
theorem encN_big {n : Nat} (h : 128 ≤ n) : encN n = (n % 128 + 128) :: encN (n / 128) := by rw [encN, if_neg (by omega)]
theorem encN_len : ∀ (k n : Nat), n < 128 ^ (k + 1) → (encN n).length ≤ k + 1
  | 0, n, h => by rw [encN_small (by simpa using h)]; simp
  | k + 1, n, h => by
    by_cases hn : n < 128
    · rw [encN_small hn]; simp
    · rw [encN_big (by omega), List.length_cons]
      have := encN_len k (n / 128) (by rw [Nat.pow_succ] at h; omega)
      omega
theorem encN_pos (n : Nat) : 0 < (encN n).length := by
  by_cases hn : n < 128
  · rw [encN_small hn]; simp
  · rw [encN_big (by omega)]; simp

theorem infoByte : (Try.prog.info? 5).map (fun i => (i.zero, i.size, i.bytes)) = some (some (.int .u8 0), 1, 1) := by kernel_rfl
set_option maxRecDepth 100000 in
theorem or128 (n : Nat) : bits BinOp.or IntKind.u8 ((n : Int) % 256) 128 = ((n % 128 + 128 : Nat) : Int) := by
  have : ∀ x : Fin 256, bits BinOp.or IntKind.u8 ((x.1 : Nat) : Int) 128 = ((x.1 % 128 + 128 : Nat) : Int) := by decide
  have h := this ⟨n % 256, by omega⟩
  simp only at h
  rw [show n % 256 % 128 = n % 128 by omega] at h
  exact_mod_cast h

/-- Behind an append of one byte. -/
theorem BRow.push {w5 : World} {base g5 cap5 : Nat} {xs ys : List Nat} {x : Nat} (h : w5.ownsRow base 5 1 (.slice (some ⟨g5, 0, none⟩) (xs.length + ys.length + 1) cap5) (xs.length + ys.length + 1) (xs.map by8 ++ (ys.map by8 ++ [.int .u8 (x : Int)]))) :
    BRow w5 base (.slice (some ⟨g5, 0, none⟩) (xs.length + ys.length + 1) cap5) (xs ++ (ys ++ [x])) := by
  unfold BRow
  rw [List.length_append, List.length_append, List.map_append, List.map_append, ← Nat.add_assoc]
  exact h
theorem own_push {w w0 : World} {g5 cap5 n : Nat} {u v : Value} (hg : ∀ g, u.ownBlock = some g → v.ownBlock = some g ∨ w0.heap.size ≤ g) (hw : w0.heap.size ≤ w.heap.size) (hg5 : u.ownBlock = some g5 ∨ g5 = w.heap.size + 1) :
    ∀ g, (Value.slice (some ⟨g5, 0, none⟩) n cap5).ownBlock = some g → v.ownBlock = some g ∨ w0.heap.size ≤ g := by
  intro g e
  obtain rfl : g5 = g := by simpa [Value.ownBlock] using e
  rcases hg5 with h | h
  · exact hg _ h
  · exact .inr (by omega)
theorem ch_push {w w0 w5 : World} {u v : Value} {o : Obj} (hc : Ch (fun k => v.ownBlock = some k) w0 w) (hg : ∀ g, u.ownBlock = some g → v.ownBlock = some g ∨ w0.heap.size ≤ g) (hgrow : (w.alloc o).grownBy w5 u.ownBlock) : Ch (fun k => v.ownBlock = some k) w0 w5 :=
  (hc.alloc o).step (Ch.of_grown hgrow) (fun k hk e => by
    rcases hg k e.symm with h | h
    · exact h
    · omega)

/-- At the head of Num's inner loop: m is still to write. -/
def EncAt (w0 : World) (base : Nat) (v : Value) (pre : List Nat) (n : Nat) (gk : Nat) (v0 v7 : Value) (w : World) : Prop :=
  ∃ done, v7 = .int .i64 (gk : Nat) ∧ encN n = done ++ encN gk ∧ BRow w base v0 (pre ++ done) ∧ (∀ g, v0.ownBlock = some g → v.ownBlock = some g ∨ w0.heap.size ≤ g) ∧ Ch (fun k => v.ownBlock = some k) w0 w

/-- What Num does. -/
def EncPost (base : Nat) (v : Value) (pre : List Nat) (n : Nat) (w : World) (e : Ending) (w' : World) : Prop :=
  ∃ v', e = .returned (.tuple #[v', .bool true]) ∧ BRow w' base v' (pre ++ encN n) ∧ (∀ g, v'.ownBlock = some g → v.ownBlock = some g ∨ w.heap.size ≤ g) ∧ Ch (fun k => v.ownBlock = some k) w w'

set_option maxRecDepth 100000 in
theorem enc_bad (b : Nat) (v : Value) (n : Int) (w : World) (h : Blk w b #[.int .i64 n] 3) (hn : (decide (0 ≤ n) && decide (n ≤ 4611686018427387904)) = false) :
    Calls Try.prog 28 #[v, .slice (some ⟨b, 0, none⟩) 1 1] w fun e w' => e = .returned (.tuple #[v, .bool false]) ∧ Below w.heap.size w w' := by
  have HR := right_one b n _ w h
  rw [hn] at HR
  have HR' := Lib.hid HR
  clear HR h hn
  go_enter Try.func28, Try.ntmps28
  go_wp2_with fail
  refine HR'.out.mono ?_
  rintro e w1 ⟨rfl, hb1⟩
  go_wp2_with fail
  exact bodyPost_ret (v := .tuple #[v, .bool false]) (by simp [results, Try.results28, go_sem]) rfl ⟨rfl, hb1⟩

set_option maxRecDepth 100000 in
set_option maxHeartbeats 4000000 in
theorem enc_ok (base b : Nat) (v : Value) (pre : List Nat) (n : Nat) (w : World) (h : Blk w b #[.int .i64 (n : Int)] 3) (hv : BRow w base v pre) (hbase : base ≤ w.heap.size) (hn : n ≤ 4611686018427387904) (hpre : pre.length ≤ 140737488351232) :
    Calls Try.prog 28 #[v, .slice (some ⟨b, 0, none⟩) 1 1] w (EncPost base v pre n w) := by
  have HR := right_one b (n : Int) _ w h
  rw [show (decide (0 ≤ (n : Int)) && decide ((n : Int) ≤ 4611686018427387904)) = true by simp; omega] at HR
  have HR' := Lib.hid HR
  have HV := Lib.hid hv
  have H := Lib.hid h
  have hE9 : (encN n).length ≤ 9 := encN_len 8 n (by omega)
  clear HR h hv
  go_enter Try.func28, Try.ntmps28
  go_wp2_with fail
  refine HR'.out.mono ?_
  rintro e w1 ⟨rfl, hb1⟩
  have HV1 := Lib.hid (HV.out.below hb1)
  have hC1 := Lib.hid (Ch.of_below (fun k => v.ownBlock = some k) hb1)
  obtain ⟨q1, q2⟩ := (H.out.below hb1).cells
  clear H HV HR' hb1
  go_wp2_with fail
  refine wp_loop_rounds 2 ?_
  rw [rounds_succ]
  go_wp2_with fail
  go_loopg [0, 7] n (fun gk v0 v7 wr => EncAt w base v pre n gk v0 v7 wr)
  case atStart => exact ⟨[], rfl, rfl, by simpa using HV1.out, fun g hg => .inl hg, hC1.out⟩
  case round =>
    obtain ⟨done, rfl, hdone, R, hg, C⟩ := hrel
    have HR := Lib.hid R
    have HC := Lib.hid C
    have HD := Lib.hid hdone
    have HG := Lib.hid hg
    have hlen : (pre ++ done).length ≤ 140737488351242 := by
      have := congrArg List.length hdone
      rw [List.length_append] at this ⊢
      omega
    have hw := C.size
    clear R C hdone hg q1 q2 HV1 hC1
    obtain ⟨i0, hinfo, hz0, hz1, hz2⟩ := info_parts infoByte
    by_cases hm : gk < 128
    · have hm1 : decide ((gk : Int) < 128) = true := by simp; omega
      have hm2 : decide (128 ≤ (gk : Int)) = false := by simp; omega
      have hm3 : (gk : Int) % 256 = (gk : Int) := by omega
      have HO := Lib.hid (HR.out.below (below1 wr (.cells #[.int .u8 (gk : Int)] 5)))
      go_wp2_with (at_builtin; refine wpList_append_lies _ rfl (.tmp 28) (.tmp 31) 51 rfl base 5 i0 (.int .u8 0) 1 1 Try.underlying51 hinfo hz0 hz1 hz2 rfl (by decide) _ _ _ rfl HO.out ⟨wr.heap.size, 0, none⟩ 1 1 [.int .u8 (gk : Int)] rfl rfl ?c1 ?c2 (by decide) ?c3 ?c4 ?c5 (wr.heap.size + 1) (by simp) ?_)
      case c1 => exact World.news_of_block (cs := #[.int .u8 (gk : Int)]) (Blk.new wr _ _)
      case c2 => intro u hu; simp at hu; subst hu; rfl
      case c3 => unfold maxLen; omega
      case c4 => omega
      case c5 => simp; omega
      intro g5 cap5 w5 hown5 hgrow hg5 hlt5
      have HO5 := Lib.hid hown5
      have HG5 := Lib.hid hgrow
      have HH5 := Lib.hid hg5
      clear hown5 hgrow hg5
      go_wp2_with fail
      rw [rounds_succ]
      go_wp2_with fail
      refine bodyPost_ret (v := .tuple #[.slice (some ⟨g5, 0, none⟩) (pre.length + done.length + 1) cap5, .bool true]) (by simp [results, Try.results28, go_sem]) rfl ⟨_, rfl, ?_, own_push HG.out hw HH5.out, ch_push HC.out HG.out HG5.out⟩
      rw [HD.out, encN_small hm]
      exact BRow.push HO5.out
    · have hm2 : decide (128 ≤ (gk : Int)) = true := by simp; omega
      obtain ⟨m2, hm2'⟩ : ∃ m2, m2 = gk % 128 + 128 := ⟨_, rfl⟩
      have hor := or128 gk
      rw [← hm2'] at hor
      have HM2 := Lib.hid hm2'
      clear hm2'
      have HO := Lib.hid (HR.out.below (below1 wr (.cells #[.int .u8 (m2 : Int)] 5)))
      go_wp2_with (at_builtin; refine wpList_append_lies _ rfl (.tmp 20) (.tmp 24) 51 rfl base 5 i0 (.int .u8 0) 1 1 Try.underlying51 hinfo hz0 hz1 hz2 rfl (by decide) _ _ _ rfl HO.out ⟨wr.heap.size, 0, none⟩ 1 1 [.int .u8 (m2 : Int)] rfl rfl ?c1 ?c2 (by decide) ?c3 ?c4 ?c5 (wr.heap.size + 1) (by simp) ?_)
      case c1 => exact World.news_of_block (cs := #[.int .u8 (m2 : Int)]) (Blk.new wr _ _)
      case c2 => intro u hu; simp at hu; subst hu; rfl
      case c3 => unfold maxLen; omega
      case c4 => omega
      case c5 => simp; omega
      intro g5 cap5 w5 hown5 hgrow hg5 hlt5
      have HO5 := Lib.hid hown5
      have HG5 := Lib.hid hgrow
      have HH5 := Lib.hid hg5
      clear hown5 hgrow hg5
      go_wp2_with fail
      go_roundg (gk / 128)
      case measure => omega
      case rel =>
        refine ⟨done ++ [m2], by simp, ?_, BRow.push HO5.out, own_push HG.out hw HH5.out, ch_push HC.out HG.out HG5.out⟩
        rw [HD.out, encN_big (by omega), HM2.out]
        simp
end

/-! NewReader: a reader over a copy of any bytes. -/
section

open Go.RowKit

/-- What NewReader hands back. -/
def NewPost (bs : List Nat) (w : World) (x : Ending) (w' : World) : Prop :=
  ∃ r g, x = .returned (.pointer (some ⟨r, 0, none⟩)) ∧ Rd w' r g bs 0 0 ∧ w.heap.size ≤ r ∧ w.heap.size ≤ g ∧ Below w.heap.size w w'

def b1 (b : Nat) : List Value := [by8 b]

/-- Bytes of a row of one's own lie at its address. -/
theorem BRow.at {w : World} {base : Nat} {v : Value} {bs : List Nat} (h : BRow w base v bs) : ∃ a cap, v = .slice a bs.length cap ∧ RowAt w a 1 b1 bs := by
  rcases h.2 with ⟨hv, h0⟩ | ⟨g, cap, cur, hv, hg, hh, hn, hc, hsz, htake⟩
  · have : bs = [] := List.length_eq_zero_iff.1 h0
    subst this
    exact ⟨none, 0, hv, fun i x hx => by simp at hx⟩
  · subst hv
    refine ⟨_, _, rfl, fun i x hx => ⟨g, 0, rfl, lt_of_block hh, fun j v hj => ?_⟩⟩
    have hi := (List.getElem?_eq_some_iff.1 hx).1
    match j, hj with
    | 0, hj =>
      have := h.cellAt (i * 1 + 0) (by omega)
      rw [show 0 + (i * 1 + 0) = i * 1 + 0 by omega, this]
      simp [hx]
      simpa [b1] using hj
    | j + 1, hj => simp [b1] at hj

set_option maxRecDepth 100000 in
theorem new_any (a : Option Addr) (cap : Nat) (bs : List Nat) (w : World) (h : RowAt w a 1 b1 bs) (hlen : bs.length ≤ 140737488351242) :
    Calls Try.prog 32 #[.slice a bs.length cap] w (NewPost bs w) := by
  obtain ⟨i0, hinfo, hz0, hz1, hz2⟩ := info_parts infoByte
  obtain ⟨w1, hmk, hown, hgrow⟩ := run_make_full (P := Try.prog) (w := w) w.heap.size 51 5 i0 (.int .u8 0) 1 Try.underlying51 hinfo hz0 hz1 .i64 .i64 bs.length (by rw [hz2]; omega) (by unfold maxLen; omega) (Nat.le_refl _)
  obtain ⟨cur, hB1, hcs⟩ : ∃ cur : Array Value, Blk w1 w.heap.size cur 5 ∧ cur.size = bs.length := by
    rcases hown.2 with ⟨hv, _⟩ | ⟨g, cap', cur, hv, _, hh, _, _, hsz, _⟩
    · simp at hv
    · simp at hv
      obtain ⟨rfl, rfl⟩ := hv
      exact ⟨cur, hh, by rw [hsz]; omega⟩
  have hc1 : Ch (fun _ => False) w w1 := (Ch.of_grown hgrow).mono (fun k e => by cases e)
  obtain ⟨w2, hcp, hB2, hc2⟩ : ∃ w2, (∀ ty, (Builtin.copy_ #[51, 51] ty #[.slice (some ⟨w.heap.size, 0, none⟩) bs.length bs.length, .slice a bs.length cap]).run Try.prog w1 = .ok (goInt bs.length) w2) ∧ Blk w2 w.heap.size (bs.map by8).toArray 5 ∧ Ch (fun k => k = w.heap.size) w1 w2 := by
    have hone : (Try.prog.info? 5).map (·.size) = some 1 := by rw [hinfo]; simp [hz1]
    by_cases he : bs = []
    · subst he
      have h0 : cur = #[] := Array.eq_empty_of_size_eq_zero hcs
      subst h0
      exact ⟨w1, fun ty => run_copy_none w1 _ _ ty 5 _ _ _ _ _ _ Try.underlying51 hone (by simp), hB1, Ch.refl _ _⟩
    · obtain ⟨b0, hb0⟩ : ∃ b0, bs[0]? = some b0 := ⟨_, List.getElem?_eq_getElem (List.length_pos_iff.2 he)⟩
      obtain ⟨bb, off, rfl, hbb, _⟩ := h 0 b0 hb0
      have hsrc : ∀ j v, (bs.map by8)[j]? = some v → w1.cell? ((⟨bb, off, none⟩ : Addr).add j) = some v := by
        intro j v hj
        rw [List.getElem?_map] at hj
        cases hx : bs[j]? with
        | none => rw [hx] at hj; simp at hj
        | some x =>
          rw [hx] at hj
          simp at hj
          obtain ⟨bb', off', e, _, hc⟩ := h j x hx
          simp at e
          obtain ⟨rfl, rfl⟩ := e
          have h2 := hc 0 v (by rw [← hj]; rfl)
          have hadd : (⟨bb, off, none⟩ : Addr).add j = ⟨bb, off + (j * 1 + 0), none⟩ := by
            unfold Addr.add
            split
            · rename_i h0; simp [h0]
            · simp
          rw [hadd]
          exact (hc1.below.cell (p := ⟨bb, _, none⟩) hbb).trans h2
      refine ⟨w1.setRow w.heap.size (cur.toList.take 0 ++ bs.map by8 ++ cur.toList.drop (0 + (bs.map by8).length)).toArray, fun ty => ?_, ?_, ?_⟩
      · have := run_copy_row (P := Try.prog) w1 51 51 ty 5 w.heap.size 0 bs.length bs.length ⟨bb, off, none⟩ bs.length cap cur 5 (bs.map by8) Try.underlying51 hone hB1 (by simp) hsrc (by simp [hcs]) (by
          intro u hu
          obtain ⟨x, _, rfl⟩ := List.mem_map.1 hu
          rfl)
        rw [this]
        simp
      · have := setRow_heap w1 w.heap.size cur (cur.toList.take 0 ++ bs.map by8 ++ cur.toList.drop (0 + (bs.map by8).length)).toArray 5 (0, 0) hB1
        have hd : cur.toList.drop (0 + (bs.map by8).length) = [] := List.drop_eq_nil_of_le (by simp [hcs])
        unfold Blk
        rw [this, hd]
        simp
      · exact ⟨rfl, rfl, rfl, by simp, fun k _ hn => setRow_other _ _ _ _ hn⟩
  have HB2 := Lib.hid hB2
  have HC := Lib.hid ((hc1.mono (S' := fun _ => False) (fun _ e => e)).step hc2 (fun k hk e => by omega))
  clear hown hgrow hB1 hc1 hc2 hB2 hinfo hz0 hz1 hz2 h
  go_enter Try.func32, Try.ntmps32
  go_wp2_with fail
  have hlt := HB2.out.lt
  exact bodyPost_ret (v := .pointer (some ⟨w2.heap.size, 0, none⟩)) (by simp [results, Try.results32, go_sem]) rfl ⟨w2.heap.size, w.heap.size, rfl, ⟨⟨0, by simpa using Blk.new w2 _ _, fun _ => rfl⟩, HB2.out.alloc _, Nat.zero_le _, by omega⟩, Nat.le_of_lt hlt, Nat.le_refl _, (HC.out.alloc _).below⟩
end

/-! Texts and truths of pack, written and read; Num of a reader with an error. -/
section

open Go.RowKit

/-- A string's bytes; a string of bytes. -/
def sB (s : ByteArray) : List Nat := s.data.toList.map UInt8.toNat
def bS (l : List Nat) : ByteArray := ⟨(l.map UInt8.ofNat).toArray⟩

theorem sB_length (s : ByteArray) : (sB s).length = s.size := by unfold sB; rw [List.length_map, Array.length_toList]; rfl
theorem sB_lt (s : ByteArray) : ∀ b ∈ sB s, b < 256 := by
  intro b hb
  obtain ⟨x, _, rfl⟩ := List.mem_map.1 hb
  exact x.toNat_lt
theorem bS_sB (s : ByteArray) : bS (sB s) = s := by
  unfold bS sB
  rw [List.map_map, show UInt8.ofNat ∘ UInt8.toNat = id from funext fun x => by simp, List.map_id]
theorem sB_bS {l : List Nat} (h : ∀ b ∈ l, b < 256) : sB (bS l) = l := by
  unfold bS sB
  simp only [List.map_map]
  conv => rhs; rw [← List.map_id l]
  apply List.map_congr_left
  intro b hb
  simp [Nat.mod_eq_of_lt (h b hb)]
theorem strCells_by8 (s : ByteArray) : Lib.strCells s = (sB s).map by8 := by
  unfold Lib.strCells sB
  rw [List.map_map]
  rfl

set_option maxRecDepth 100000 in
/-- Num of a reader with an error. -/
theorem num_err (r g : Nat) (bs : List Nat) (k : Nat) (e : Int) (limit : Int) (w : World) (h : Rd w r g bs k e) (he : e ≠ 0) :
    Calls Try.prog 33 #[.pointer (some ⟨r, 0, none⟩), .int .i64 limit] w fun x w' => x = .returned (.int .i64 0) ∧ Rd w' r g bs k e ∧ Ch (· = r) w w' := by
  have H1 := h.alloc (.cells #[.pointer (some ⟨r, 0, none⟩)] 56)
  have H2 := Blk.new w #[.pointer (some ⟨r, 0, none⟩)] 56
  have H3 := Lib.hid ((Ch.refl (· = r) w).alloc (.cells #[.pointer (some ⟨r, 0, none⟩)] 56))
  have HN := next_bad w.heap.size r g bs k e _ H1 H2 (.inl he)
  rw [if_neg he] at HN
  have HN' := Lib.hid HN
  have hmf : ∀ (fn : Fn) (first cap : Array Value) (w : World), (Instr.makeFunc fn first cap).run Try.prog w = .ok (.func fn first cap) w := fun _ _ _ _ => rfl
  clear h H1 H2 HN
  go_enter Try.func33, Try.ntmps33
  go_wp2_with fail
  go_step3
  go_wp2_with fail
  go_step3
  go_wp2_with fail
  refine wp_loop_rounds 1 ?_
  rw [rounds_succ]
  go_wp2_with fail
  refine HN'.out.mono ?_
  rintro x w2 ⟨rfl, R2, c2⟩
  have HR2 := Lib.hid R2
  have HC2 := Lib.hid (H3.out.trans c2)
  clear R2 c2 HN' H3
  go_wp2_with fail
  rw [Exit.noGoto_ret]
  go_ret
  exact ⟨rfl, HR2.out, HC2.out⟩

/-- What Text does. -/
def TextPost (base : Nat) (v : Value) (pre : List Nat) (s : ByteArray) (w : World) (e : Ending) (w' : World) : Prop :=
  ∃ v', e = .returned (.tuple #[v', .bool true]) ∧ BRow w' base v' (pre ++ (encN s.size ++ sB s)) ∧ Ch (fun k => v.ownBlock = some k) w w'

set_option maxRecDepth 100000 in
theorem text_bad (v : Value) (s : ByteArray) (w : World) (h : 65536 < s.size) :
    Calls Try.prog 29 #[v, .string s] w fun e w' => e = .returned (.tuple #[v, .bool false]) ∧ Below w.heap.size w w' := by
  have h1 : decide ((65536 : Int) < (s.size : Int)) = true := by simp; omega
  go_enter Try.func29, Try.ntmps29
  go_wp2_with fail
  exact bodyPost_ret (v := .tuple #[v, .bool false]) (by simp [results, Try.results29, go_sem]) rfl ⟨rfl, Below.refl _ _⟩

set_option maxRecDepth 100000 in
theorem text_ok (base : Nat) (v : Value) (pre : List Nat) (s : ByteArray) (w : World) (hv : BRow w base v pre) (hbase : base ≤ w.heap.size) (hs : s.size ≤ 65536) (hpre : pre.length + 65536 ≤ 140737488351232) :
    Calls Try.prog 29 #[v, .string s] w (TextPost base v pre s w) := by
  obtain ⟨i0, hinfo, hz0, hz1, hz2⟩ := info_parts infoByte
  have h1 : decide ((65536 : Int) < (s.size : Int)) = false := by simp; omega
  have hE9 : (encN s.size).length ≤ 9 := encN_len 8 s.size (by omega)
  have HE := Lib.hid (enc_ok base w.heap.size v pre s.size (w.alloc (.cells #[.int .i64 (s.size : Int)] 3)) (Blk.new w _ _) (hv.below (below1 w _)) (by simp; omega) (by omega) (by omega))
  clear hv
  go_enter Try.func29, Try.ntmps29
  go_wp2_with fail
  refine HE.out.mono ?_
  rintro e w2 ⟨v2, rfl, R2, hg2, c2⟩
  have HR2 := Lib.hid R2
  have HG2 := Lib.hid hg2
  have HC2 := Lib.hid (((Ch.refl (fun k => v.ownBlock = some k) w).alloc (.cells #[.int .i64 (s.size : Int)] 3)).trans (c2.mono fun _ e => e))
  have hw2 := HC2.out.size
  clear R2 hg2 c2 HE
  go_wp2_with (at_builtin; refine Lib.wpList_append_own_string _ rfl (.tmp 18) (.tmp 19) 51 9 rfl base 5 i0 Try.underlying51 Try.underlying9 hinfo hz0 hz1 hz2 _ _ _ rfl HR2.out s rfl ?c3 ?c4 ?c5 ?_)
  case c3 => unfold maxLen; simp; omega
  case c4 => simp; omega
  case c5 => omega
  intro v5 w5 hown5 hgrow _
  have HO5 := Lib.hid hown5
  have HG5 := Lib.hid hgrow
  clear hown5 hgrow
  go_wp2_with fail
  refine bodyPost_ret (v := .tuple #[v5, .bool true]) (by simp [results, Try.results29, go_sem]) rfl ⟨v5, rfl, ?_, HC2.out.step (Ch.of_grown HG5.out) (fun k hk e => ?_)⟩
  · have := HO5.out
    unfold BRow
    rw [strCells_by8] at this
    simpa [sB_length, Nat.add_assoc] using this
  · rcases HG2.out k e.symm with h | h
    · exact h
    · simp at h; omega

end

/-! The reader's Text, Bool and alive of the pack laws. -/
section

open Go.RowKit

/-- What a reader with error e does for Num: number, bytes, error. -/
def numE (e limit : Int) (l : List Nat) : Nat × Nat × Int := if e = 0 then numF limit l else (0, 0, e)
def NumEPost (r g : Nat) (bs : List Nat) (k : Nat) (e limit : Int) (w : World) (x : Ending) (w' : World) : Prop :=
  x = .returned (.int .i64 ((numE e limit (bs.drop k)).1 : Nat)) ∧ Rd w' r g bs (k + (numE e limit (bs.drop k)).2.1) (numE e limit (bs.drop k)).2.2 ∧ Ch (· = r) w w'
theorem num_any (r g : Nat) (bs : List Nat) (k : Nat) (e limit : Int) (w : World) (h : Rd w r g bs k e) (hb : ∀ b ∈ bs, b < 256) (hlen : bs.length ≤ maxLen) :
    Calls Try.prog 33 #[.pointer (some ⟨r, 0, none⟩), .int .i64 limit] w (NumEPost r g bs k e limit w) := by
  unfold NumEPost numE
  by_cases he : e = 0
  · subst he
    simp only [if_true]
    exact num_ok r g bs k limit w h hb hlen
  · simp only [if_neg he]
    exact num_err r g bs k e limit w h he

/-- What Text reads: the bytes, how many were taken, the error. -/
def textE (e limit : Int) (l : List Nat) : List Nat × Nat × Int :=
  if (numE e limit l).2.2 = 0 then
    (if (numE e limit l).1 ≤ (l.drop (numE e limit l).2.1).length then ((l.drop (numE e limit l).2.1).take (numE e limit l).1, (numE e limit l).2.1 + (numE e limit l).1, 0) else ([], (numE e limit l).2.1, 20))
  else ([], (numE e limit l).2.1, (numE e limit l).2.2)
def TextEPost (r g : Nat) (bs : List Nat) (k : Nat) (e limit : Int) (w : World) (x : Ending) (w' : World) : Prop :=
  x = .returned (.string (bS (textE e limit (bs.drop k)).1)) ∧ Rd w' r g bs (k + (textE e limit (bs.drop k)).2.1) (textE e limit (bs.drop k)).2.2 ∧ Ch (· = r) w w'

/-- 'string' of bytes of a reader. -/
theorem string_of (src dst el : TypeId) {P : Program} (w : World) (g o n c : Nat) (bs : List Nat) (t : Nat) (h : Blk w g (bs.map by8).toArray t) (hb : ∀ b ∈ bs, b < 256) (hn : o + n ≤ bs.length)
    (hs : P.underlying src = some (.slice el)) (he : P.underlying el = some (.int .u8)) (hd : P.underlying dst = some .string) :
    (convert src dst (.slice (some ⟨g, o, none⟩) n c)).run P w = .ok (.string (bS ((bs.drop o).take n))) w := by
  have hl : (((bs.drop o).take n).map UInt8.ofNat).length = n := by simp; omega
  have := run_convert_bytes_back (P := P) w src dst el ⟨g, o, none⟩ c (((bs.drop o).take n).map UInt8.ofNat) hs he hd (by
    intro j hj
    rw [hl] at hj
    have hadd : (⟨g, o, none⟩ : Addr).add j = ⟨g, o + j, none⟩ := by
      unfold Addr.add
      split
      · rename_i h0; simp [h0]
      · rfl
    rw [hadd, h.cell]
    have h1 : bs[o + j]? = some bs[o + j] := List.getElem?_eq_getElem (by omega)
    have h2 := hb _ (List.mem_of_getElem? h1)
    simp [by8, Nat.mod_eq_of_lt h2]
    exact ⟨_, h1, rfl⟩)
  rw [hl] at this
  exact this

set_option maxRecDepth 100000 in
theorem rtext_any (r g : Nat) (bs : List Nat) (k : Nat) (e limit : Int) (w : World) (h : Rd w r g bs k e) (hb : ∀ b ∈ bs, b < 256) (hlen : bs.length ≤ maxLen) :
    Calls Try.prog 34 #[.pointer (some ⟨r, 0, none⟩), .int .i64 limit] w (TextEPost r g bs k e limit w) := by
  have HN := Lib.hid (num_any r g bs k e limit w h hb hlen)
  have HB := Lib.hid hb
  clear h hb
  go_enter Try.func34, Try.ntmps34
  go_wp2_with fail
  refine HN.out.mono ?_
  rintro x w1 ⟨rfl, R1, c1⟩
  obtain ⟨⟨n, c, e1⟩, hq⟩ : ∃ q, q = numE e limit (bs.drop k) := ⟨_, rfl⟩
  rw [← hq] at R1 ⊢
  have HR1 := Lib.hid R1
  have HQ := Lib.hid hq
  have HC1 := Lib.hid c1
  have hle := R1.le
  clear R1 hq c1 HN
  by_cases hbad : e1 ≠ 0 ∨ bs.length < k + c + n
  · have ht := take_bad r g bs (k + c) n e1 w1 HR1.out hbad
    obtain ⟨e2, he2⟩ : ∃ e2, e2 = (if e1 = 0 then 20 else e1) := ⟨_, rfl⟩
    rw [← he2] at ht
    have HT := Lib.hid ht
    have HE2 := Lib.hid he2
    have hnil := fun w' => Lib.run_convert_nil_bytes (P := Try.prog) w' 51 9 5 0 Try.underlying51 Try.underlying5 Try.underlying9
    clear ht he2
    go_wp2_with fail
    refine HT.out.mono ?_
    rintro x w2 ⟨rfl, R2, c2⟩
    have HR2 := Lib.hid R2
    have HC2 := Lib.hid (HC1.out.trans c2)
    clear R2 c2 HT HR1 HC1
    go_wp2_with fail
    have hte : textE e limit (bs.drop k) = ([], c, e2) := by
      unfold textE
      rw [← HQ.out]
      simp only
      by_cases h0 : e1 = 0
      · rw [if_pos h0, if_neg (by
          have := hbad.resolve_left (by simp [h0])
          simp only [List.length_drop]
          omega), HE2.out, if_pos h0]
      · rw [if_neg h0, HE2.out, if_neg h0]
    refine bodyPost_ret (v := .string (bS [])) (by simp [results, Try.results34, go_sem, bS]) rfl ?_
    unfold TextEPost
    rw [hte]
    exact ⟨rfl, HR2.out, HC2.out⟩
  · have h0 : e1 = 0 := by omega
    subst h0
    have HT := Lib.hid (take_ok r g bs (k + c) n w1 HR1.out (by omega) hlen)
    have hte : textE e limit (bs.drop k) = ((bs.drop (k + c)).take n, c + n, 0) := by
      unfold textE
      rw [← HQ.out]
      simp only [if_true]
      rw [if_pos (by simp only [List.length_drop]; omega), List.drop_drop]
    have HTE := Lib.hid hte
    clear hte HQ
    go_wp2_with fail
    refine HT.out.mono ?_
    rintro x w2 ⟨⟨o, cp, rfl, ho⟩, R2, c2⟩
    have hstr : (convert 51 9 (.slice (some ⟨g, o, none⟩) n cp)).run Try.prog w2 = .ok (.string (bS ((bs.drop (k + c)).take n))) w2 := by
      by_cases hn : 0 < n
      · rw [ho hn]
        exact string_of _ _ 5 w2 g (k + c) n cp bs _ R2.arr HB.out (by omega) Try.underlying51 Try.underlying5 Try.underlying9
      · obtain rfl : n = 0 := by omega
        have := run_convert_bytes_back (P := Try.prog) w2 51 9 5 ⟨g, o, none⟩ cp [] Try.underlying51 Try.underlying5 Try.underlying9 (by simp)
        simpa [bS] using this
    have HR2 := Lib.hid R2
    have HC2 := Lib.hid (HC1.out.trans c2)
    clear R2 c2 HT HR1 HC1 ho
    go_wp2_with fail
    refine bodyPost_ret (v := .string (bS ((bs.drop (k + c)).take n))) (by simp [results, Try.results34, go_sem]) rfl ?_
    unfold TextEPost
    rw [HTE.out]
    exact ⟨rfl, by have := HR2.out; rw [← Nat.add_assoc]; exact this, HC2.out⟩

end

/-! The plain laws of pack's numbers: what is written is read, and only that. -/
section


theorem scan_enc : ∀ (m j acc : Nat) (rest : List Nat), m < 128 ^ (9 - j) → j ≤ 8 → (m ≠ 0 ∨ j = 0) → scan j acc (encN m ++ rest) = (acc + m * 128 ^ j, (encN m).length, 0) := by
  intro m
  induction m using Nat.strongRecOn with
  | _ m ih =>
    intro j acc rest hm hj h0
    by_cases h : m < 128
    · rw [encN_small h, List.singleton_append, scan_done h (by omega), Nat.mod_eq_of_lt h]
      rfl
    · have hj8 : j ≠ 8 := by rintro rfl; simp at hm; omega
      have hd : m / 128 < 128 ^ (9 - (j + 1)) := by
        rw [show 9 - j = (9 - (j + 1)) + 1 by omega, Nat.pow_succ] at hm
        omega
      rw [encN_big (by omega), List.cons_append, scan_more (by omega) (by omega) hj8, ih (m / 128) (by omega) (j + 1) _ rest hd (by omega) (.inl (by omega))]
      have e : acc + (m % 128 + 128) % 128 * 128 ^ j + m / 128 * 128 ^ (j + 1) = acc + m * 128 ^ j := by
        rw [show (m % 128 + 128) % 128 = m % 128 by omega, Nat.pow_succ, Nat.add_assoc, Nat.mul_comm (128 ^ j) 128, ← Nat.mul_assoc, ← Nat.add_mul]
        congr 2
        omega
      simp only [e, List.length_cons]

theorem numF_enc {m : Nat} (hm : m ≤ 4611686018427387904) (limit : Int) (rest : List Nat) : numF limit (encN m ++ rest) = if (m : Int) ≤ limit then (m, (encN m).length, 0) else (0, (encN m).length, 21) := by
  have h := scan_enc m 0 0 rest (by simp; omega) (by omega) (.inr rfl)
  simp only [Nat.zero_add, Nat.pow_zero, Nat.mul_one] at h
  by_cases hl : (m : Int) ≤ limit
  · rw [if_pos hl, numF_ok h hm hl]
  · rw [if_neg hl, numF_form h (fun e => hl e.2)]

theorem scan_inv : ∀ (l : List Nat) (j acc v c : Nat), (∀ b ∈ l, b < 256) → j ≤ 8 → scan j acc l = (v, c, 0) → ∃ m, v = acc + m * 128 ^ j ∧ l.take c = encN m ∧ (0 < j → m ≠ 0) ∧ c ≤ l.length
  | [], j, acc, v, c, _, _, h => by simp [scan] at h
  | x :: l, j, acc, v, c, hb, hj, h => by
    have hx := hb x (by simp)
    by_cases h1 : x < 128
    · by_cases h2 : x = 0 ∧ 0 < j
      · rw [scan_form (.inl h2)] at h
        simp at h
      · rw [scan_done h1 h2] at h
        simp at h
        obtain ⟨rfl, rfl⟩ := h
        exact ⟨x, by rw [Nat.mod_eq_of_lt h1], by rw [encN_small h1]; simp, by omega, by simp⟩
    · by_cases h2 : j = 8
      · rw [scan_form (.inr ⟨by omega, h2⟩)] at h
        simp at h
      · rw [scan_more (by omega) hx h2] at h
        obtain ⟨⟨v1, c1, x1⟩, hq⟩ : ∃ q, scan (j + 1) (acc + x % 128 * 128 ^ j) l = q := ⟨_, rfl⟩
        rw [hq] at h
        simp only [Prod.mk.injEq] at h
        obtain ⟨rfl, rfl, rfl⟩ := h
        obtain ⟨m, e1, e2, e3, e4⟩ := scan_inv l (j + 1) _ _ _ (fun b hm => hb b (by simp [hm])) (by omega) hq
        refine ⟨x % 128 + m * 128, ?_, ?_, fun _ => by have := e3 (by omega); omega, by simpa using e4⟩
        · rw [e1, Nat.add_mul, Nat.pow_succ, Nat.mul_comm (128 ^ j) 128, Nat.mul_assoc, Nat.add_assoc]
        · rw [List.take_succ_cons, e2, encN_big (n := x % 128 + m * 128) (by have := e3 (by omega); omega)]
          rw [show (x % 128 + m * 128) / 128 = m by omega, show (x % 128 + m * 128) % 128 + 128 = x by omega]

theorem encN_lt : ∀ (m : Nat), ∀ b ∈ encN m, b < 256 := by
  intro m
  induction m using Nat.strongRecOn with
  | _ m ih =>
    intro b hb
    by_cases h : m < 128
    · rw [encN_small h] at hb
      simp at hb
      omega
    · rw [encN_big (by omega)] at hb
      rcases List.mem_cons.1 hb with rfl | hb
      · omega
      · exact ih _ (by omega) b hb

theorem encN_inj {m n : Nat} (hm : m ≤ 4611686018427387904) (hn : n ≤ 4611686018427387904) (h : encN m = encN n) : m = n := by
  have h1 := numF_enc hm 4611686018427387904 []
  have h2 := numF_enc hn 4611686018427387904 []
  rw [h, h2, if_pos (by omega), if_pos (by omega)] at h1
  exact (Prod.mk.inj h1).1.symm

theorem encN_mono : ∀ (m n : Nat), m ≤ n → (encN m).length ≤ (encN n).length := by
  intro m
  induction m using Nat.strongRecOn with
  | _ m ih =>
    intro n h
    by_cases h1 : m < 128
    · rw [encN_small h1]
      exact encN_pos n
    · rw [encN_big (by omega), encN_big (n := n) (by omega)]
      simp only [List.length_cons]
      have := ih (m / 128) (by omega) (n / 128) (by omega)
      omega
end

/-! What other chapters need of pack's plain laws and readings. -/
section

open Go.RowKit

theorem NumEPost.at {r g : Nat} {bs : List Nat} {k : Nat} {e limit : Int} {w w' : World} {x : Ending} (h : NumEPost r g bs k e limit w x w') {v c : Nat} {e2 : Int} (hq : numE e limit (bs.drop k) = (v, c, e2)) :
    x = .returned (.int .i64 (v : Nat)) ∧ Rd w' r g bs (k + c) e2 ∧ Ch (· = r) w w' := by
  unfold NumEPost at h
  rw [hq] at h
  exact h
theorem TextEPost.at {r g : Nat} {bs : List Nat} {k : Nat} {e limit : Int} {w w' : World} {x : Ending} (h : TextEPost r g bs k e limit w x w') {t : List Nat} {c : Nat} {e2 : Int} (hq : textE e limit (bs.drop k) = (t, c, e2)) :
    x = .returned (.string (bS t)) ∧ Rd w' r g bs (k + c) e2 ∧ Ch (· = r) w w' := by
  unfold TextEPost at h
  rw [hq] at h
  exact h

/-- 'string' of a row of bytes. -/
theorem brow_string {w : World} {base : Nat} {v : Value} {bs : List Nat} (h : BRow w base v bs) (hb : ∀ b ∈ bs, b < 256) : (convert 51 9 v).run Try.prog w = .ok (.string (bS bs)) w := by
  rcases h.2 with ⟨hv, h0⟩ | ⟨g, cap, cur, hv, hg, hh, hn, hc, hsz, htake⟩
  · have : bs = [] := List.length_eq_zero_iff.1 h0
    subst this
    subst hv
    exact Lib.run_convert_nil_bytes (P := Try.prog) w 51 9 5 0 Try.underlying51 Try.underlying5 Try.underlying9
  · subst hv
    have hl : (bs.map UInt8.ofNat).length = bs.length := List.length_map _
    have := run_convert_bytes_back (P := Try.prog) w 51 9 5 ⟨g, 0, none⟩ cap (bs.map UInt8.ofNat) Try.underlying51 Try.underlying5 Try.underlying9 (by
      intro j hj
      rw [hl] at hj
      rw [h.cells (g := g) rfl j (by8 bs[j]) (by simp [hj])]
      have h2 := hb _ (List.getElem_mem hj)
      simp [by8, Nat.mod_eq_of_lt h2])
    rw [hl] at this
    exact this

theorem BRow.nil (w : World) (base : Nat) : BRow w base (.slice none 0 0) [] := World.ownsRow_nil _ _ _ _

theorem BRow.lt {w : World} {base : Nat} {v : Value} {bs : List Nat} (h : BRow w base v bs) {g : Nat} (e : v.ownBlock = some g) : base ≤ g ∧ g < w.heap.size := by
  rcases h.2 with ⟨h2, _⟩ | ⟨g3, cap3, cur3, hv3, hg3, hh, _⟩
  · rw [h2] at e; simp [Value.ownBlock] at e
  · rw [hv3] at e
    obtain rfl : g3 = g := by simpa [Value.ownBlock] using e
    exact ⟨hg3, lt_of_block hh⟩
/-- A row behind a step that changes it alone: nothing old. -/

theorem RowAt.below {w w1 : World} {a : Option Addr} {sz : Nat} {α : Type} {out : α → List Value} {xs : List α} (h : RowAt w a sz out xs) (hb : Below w.heap.size w w1) : RowAt w1 a sz out xs := by
  intro i x hx
  obtain ⟨b, off, rfl, hlt, hc⟩ := h i x hx
  exact ⟨b, off, rfl, Nat.lt_of_lt_of_le hlt hb.size, fun j v hj => (hb.cell (p := ⟨b, _, none⟩) hlt).trans (hc j v hj)⟩

theorem numF_zero {limit : Int} {l : List Nat} {v c : Nat} {e : Int} (h : numF limit l = (v, c, e)) (he : e ≠ 0) : v = 0 := by
  unfold numF at h
  split at h
  · simp at h
    exact absurd h.2.2.symm he
  · simp at h
    exact h.1.symm
theorem numF_back {limit : Int} {l : List Nat} {v c : Nat} (hb : ∀ b ∈ l, b < 256) (h : numF limit l = (v, c, 0)) : l.take c = encN v ∧ c ≤ l.length ∧ v ≤ 4611686018427387904 := by
  unfold numF at h
  split at h
  · rename_i hc
    obtain ⟨⟨v1, c1, e1⟩, hq⟩ : ∃ q, scan 0 0 l = q := ⟨_, rfl⟩
    rw [hq] at h hc
    simp at h hc
    obtain ⟨rfl, rfl⟩ := h
    obtain ⟨rfl, h1, h2⟩ := hc
    obtain ⟨m, e1, e2, _, e4⟩ := scan_inv l 0 0 _ _ hb (by omega) hq
    simp at e1
    subst e1
    exact ⟨e2, e4, h1⟩
  · rename_i hc
    exfalso
    simp at h
    split at h
    · simp at h
    · rename_i h1
      exact h1 h.2.2

theorem scan_le : ∀ (l : List Nat) (j n : Nat), (scan j n l).2.1 ≤ l.length
  | [], _, _ => by simp [scan]
  | x :: l, j, n => by
    have ih := scan_le l (j + 1) (n + (x - 128) * 128 ^ j)
    unfold scan
    split
    · split <;> simp
    · split
      · simp
      · simp
        omega
theorem numE_le (e limit : Int) (l : List Nat) : (numE e limit l).2.1 ≤ l.length := by
  unfold numE
  split
  · unfold numF
    have := scan_le l 0 0
    split <;> simpa using this
  · simp
theorem textE_le (e limit : Int) (l : List Nat) : (textE e limit l).2.1 ≤ l.length := by
  have := numE_le e limit l
  unfold textE
  split
  · split
    · rename_i h
      simp only [List.length_drop] at h
      show (numE e limit l).2.1 + (numE e limit l).1 ≤ l.length
      omega
    · exact this
  · exact this

theorem bS_size (l : List Nat) : (bS l).size = l.length := by unfold bS; simp [ByteArray.size]
theorem bS_add (a b : List Nat) : bS a ++ bS b = bS (a ++ b) := by
  apply Go.WideShapes.bytes_inj
  unfold bS
  simp
theorem BRow.own {w : World} {base : Nat} {v : Value} {bs : List Nat} (h : BRow w base v bs) : ∀ g, v.ownBlock = some g → base ≤ g := fun g e => (h.lt e).1
theorem numE_enc {m : Nat} (hm : m ≤ 4611686018427387904) (limit : Int) (hl : (m : Int) ≤ limit) (rest : List Nat) : numE 0 limit (encN m ++ rest) = (m, (encN m).length, 0) := by
  unfold numE
  rw [if_pos rfl, numF_enc hm, if_pos hl]
theorem textE_enc {s : ByteArray} (hs : s.size ≤ 65536) (limit : Int) (hl : (s.size : Int) ≤ limit) (rest : List Nat) : textE 0 limit (encN s.size ++ sB s ++ rest) = (sB s, (encN s.size).length + s.size, 0) := by
  unfold textE
  rw [List.append_assoc, numE_enc (by omega) limit hl]
  simp only [if_true]
  rw [List.drop_left, List.length_append, sB_length, if_pos (by omega)]
  congr 1
  rw [← sB_length, List.take_left]

/-- '[]byte' of a string. -/
theorem conv_bytes (w : World) (s : ByteArray) : ∃ cap w', (convert 9 51 (.string s)).run Try.prog w = .ok (.slice (some ⟨w.heap.size, 0, none⟩) (sB s).length cap) w' ∧ RowAt w' (some ⟨w.heap.size, 0, none⟩) 1 b1 (sB s) ∧ Below w.heap.size w w' := by
  refine ⟨_, _, by rw [sB_length]; exact Lib.run_convert_string_bytes (P := Try.prog) w 9 51 5 s Try.underlying9 Try.underlying51 Try.underlying5, ?_, ?_⟩
  · intro i x hx
    have hi := (List.getElem?_eq_some_iff.1 hx).1
    rw [sB_length] at hi
    refine ⟨w.heap.size, 0, rfl, by rw [Lib.bytesWorld_size]; omega, fun j v hj => ?_⟩
    match j, hj with
    | 0, hj =>
      rw [show 0 + (i * 1 + 0) = i by omega, Lib.bytesWorld_cell w _ s i hi]
      simp [b1] at hj
      subst hj
      unfold sB at hx
      rw [List.getElem?_map] at hx
      obtain ⟨y, hy, rfl⟩ := Option.map_eq_some_iff.1 hx
      rw [List.getD_eq_getElem?_getD, hy]
      rfl
    | j + 1, hj => simp [b1] at hj
  · exact ⟨rfl, rfl, rfl, by rw [Lib.bytesWorld_size]; omega, fun k hk => Lib.bytesWorld_at_old w _ s k hk⟩
end

/-! pack.Num of any numbers. -/
section

open Go.RowKit

/-- The document's bytes of numbers. -/
def encL (ms : List Nat) : List Nat := (ms.map encN).flatten
theorem encL_snoc (ms : List Nat) (m : Nat) : encL (ms ++ [m]) = encL ms ++ encN m := by simp [encL]
def nums (ms : List Nat) : Array Value := (ms.map fun m : Nat => Value.int .i64 (m : Int)).toArray

/-- right's loop. -/
def RightIn (w : World) (n : Nat) (v : Value) (wi : World) : Prop := ∃ j, j ≤ n ∧ v = .int .i64 (j : Nat) ∧ Ch (fun _ => False) w wi
set_option maxRecDepth 100000 in
theorem right_all (b : Nat) (ms : List Nat) (t : Nat) (w : World) (h : Blk w b (nums ms) t) (hm : ∀ m ∈ ms, m ≤ 4611686018427387904) (hl : ms.length ≤ 1000) :
    Calls Try.prog 42 #[.slice (some ⟨b, 0, none⟩) ms.length ms.length] w fun x w' => x = .returned (.bool true) ∧ Below w.heap.size w w' := by
  have H := Lib.hid h
  have HM := Lib.hid hm
  clear h hm
  go_enter Try.func42, Try.ntmps42
  go_wp2_with fail
  go_loopw [7] (fun v7 wi => RightIn w ms.length v7 wi) (fun i _ => ms.length - (intOf i).toNat)
  case atStart => exact ⟨0, Nat.zero_le _, rfl, Ch.refl _ _⟩
  case round =>
    obtain ⟨j, hj, rfl, C5⟩ := hrel
    have KC := Lib.hid C5
    clear C5
    by_cases hlt : j < ms.length
    · have ht : decide ((j : Int) < (ms.length : Int)) = true := by simpa using hlt
      have ht2 : decide (ms.length ≤ j) = false := by simpa using hlt
      obtain ⟨m, hp⟩ : ∃ m, ms[j]? = some m := ⟨_, List.getElem?_eq_getElem hlt⟩
      have hml := HM.out m (List.mem_of_getElem? hp)
      have q0 : wr.cell? ⟨b, j, none⟩ = some (.int .i64 (m : Int)) := by
        rw [(H.out.below KC.out.below).cell]
        simp [nums, hp]
      have t0 : decide ((m : Int) < 0) = false := by simp
      have t1 : decide ((4611686018427387904 : Int) < (m : Int)) = false := by simp; omega
      go_wp2_with fail
      go_roundw
      case rel => exact ⟨j + 1, hlt, by simp, KC.out⟩
      case measure => simp only [intOf]; omega
    · have ht : decide ((j : Int) < (ms.length : Int)) = false := by simpa using hlt
      have ht2 : decide (ms.length ≤ j) = true := by simp; omega
      go_wp2_with fail
      go_ret
      exact ⟨rfl, KC.out.below⟩

/-- Num's outer loop: j numbers are written. -/
def EncsIn (w0 : World) (base : Nat) (v : Value) (pre : List Nat) (ms : List Nat) (v0 v14 : Value) (w : World) : Prop :=
  ∃ j u, u = v0 ∧ j ≤ ms.length ∧ v14 = .int .i64 (j : Nat) ∧ BRow w base u (pre ++ encL (ms.take j)) ∧ (∀ g, u.ownBlock = some g → v.ownBlock = some g ∨ w0.heap.size ≤ g) ∧ Ch (fun k => v.ownBlock = some k) w0 w
/-- What Num does. -/
def EncLPost (base : Nat) (v : Value) (pre : List Nat) (ms : List Nat) (w : World) (e : Ending) (w' : World) : Prop :=
  ∃ v', e = .returned (.tuple #[v', .bool true]) ∧ BRow w' base v' (pre ++ encL ms) ∧ (∀ g, v'.ownBlock = some g → v.ownBlock = some g ∨ w.heap.size ≤ g) ∧ Ch (fun k => v.ownBlock = some k) w w'
theorem encL_len : ∀ ms : List Nat, (∀ m ∈ ms, m ≤ 4611686018427387904) → (encL ms).length ≤ 9 * ms.length
  | [], _ => by simp [encL]
  | m :: ms, h => by
    have h1 := encL_len ms (fun x hx => h x (by simp [hx]))
    have h2 := encN_len 8 m (by have := h m (by simp); omega)
    have h3 : encL (m :: ms) = encN m ++ encL ms := by simp [encL]
    rw [h3, List.length_append]
    simp only [List.length_cons]
    omega

set_option maxRecDepth 100000 in
set_option maxHeartbeats 8000000 in
theorem encs_ok (base b : Nat) (v : Value) (pre : List Nat) (ms : List Nat) (w : World) (h : Blk w b (nums ms) 3) (hv : BRow w base v pre) (hbase : base ≤ w.heap.size) (hb : v.ownBlock ≠ some b) (hm : ∀ m ∈ ms, m ≤ 4611686018427387904) (hl : ms.length ≤ 1000) (hpre : pre.length ≤ 140737488341232) :
    Calls Try.prog 28 #[v, .slice (some ⟨b, 0, none⟩) ms.length ms.length] w (EncLPost base v pre ms w) := by
  have HR' := Lib.hid (right_all b ms _ w h hm hl)
  have HV := Lib.hid hv
  have H := Lib.hid h
  have HM := Lib.hid hm
  have HB := Lib.hid hb
  clear h hv hm hb
  go_enter Try.func28, Try.ntmps28
  go_wp2_with fail
  refine HR'.out.mono ?_
  rintro e w1 ⟨rfl, hb1⟩
  have HV1 := Lib.hid (HV.out.below hb1)
  have hC1 := Lib.hid (Ch.of_below (fun k => v.ownBlock = some k) hb1)
  clear HV HR' hb1
  go_wp2_with fail
  go_loopw [0, 14] (fun v0 v14 wi => EncsIn w base v pre ms v0 v14 wi) (fun _ i _ => ms.length - (intOf i).toNat)
  case atStart => exact ⟨0, v, rfl, Nat.zero_le _, rfl, by simpa [encL] using HV1.out, fun g hg => .inl hg, hC1.out⟩
  case round =>
    obtain ⟨j, u, rfl, hj, rfl, R, hg, C⟩ := hrel
    have KR := Lib.hid R
    have KG := Lib.hid hg
    have KC := Lib.hid C
    clear R hg C HV1 hC1
    by_cases hlt : j < ms.length
    · have ht : decide ((j : Int) < (ms.length : Int)) = true := by simpa using hlt
      have ht2 : decide (ms.length ≤ j) = false := by simpa using hlt
      obtain ⟨n, hp⟩ : ∃ n, ms[j]? = some n := ⟨_, List.getElem?_eq_getElem hlt⟩
      have hml := HM.out n (List.mem_of_getElem? hp)
      have q0 : wr.cell? ⟨b, j, none⟩ = some (.int .i64 (n : Int)) := by
        rw [(H.out.ch KC.out HB.out).cell]
        simp [nums, hp]
      have HS := Lib.hid (encL_snoc (ms.take j) n)
      rw [show ms.take j ++ [n] = ms.take (j + 1) by rw [List.take_add_one, hp]; rfl] at HS
      have hE9 : (encN n).length ≤ 9 := encN_len 8 n (by omega)
      have hP : (encL (ms.take j)).length ≤ 9000 := by
        have h1 := encL_len (ms.take j) (fun m h => HM.out m (List.mem_of_mem_take h))
        have h2 : (ms.take j).length ≤ 1000 := by rw [List.length_take]; omega
        omega
      obtain ⟨pr, hpr⟩ : ∃ pr, pr = pre ++ encL (ms.take j) := ⟨_, rfl⟩
      have hprl : pr.length ≤ 140737488351232 := by rw [hpr, List.length_append]; omega
      rw [← hpr] at KR
      have HPR := Lib.hid hpr
      clear hpr hP
      go_wp2_with fail
      go_loopg [0, 7] n (fun gk v0 v7 wr => EncAt w base v pr n gk v0 v7 wr)
      case atStart => exact ⟨[], rfl, rfl, by rw [List.append_nil]; exact KR.out, KG.out, KC.out⟩
      case round =>
        obtain ⟨done, rfl, hdone, R, hg, C⟩ := hrel
        have HR := Lib.hid R
        have HC := Lib.hid C
        have HD := Lib.hid hdone
        have HG := Lib.hid hg
        have hlen : (pr ++ done).length ≤ 140737488351242 := by
          have := congrArg List.length hdone
          rw [List.length_append] at this ⊢
          omega
        have hw := C.size
        clear R C hdone hg q0 KR KG KC
        obtain ⟨i0, hinfo, hz0, hz1, hz2⟩ := info_parts infoByte
        by_cases hm : gk < 128
        · have hm1 : decide ((gk : Int) < 128) = true := by simp; omega
          have hm2 : decide (128 ≤ (gk : Int)) = false := by simp; omega
          have hm3 : (gk : Int) % 256 = (gk : Int) := by omega
          have HO := Lib.hid (HR.out.below (below1 wr (.cells #[.int .u8 (gk : Int)] 5)))
          go_wp2_with (at_builtin; refine wpList_append_lies _ rfl (.tmp 28) (.tmp 31) 51 rfl base 5 i0 (.int .u8 0) 1 1 Try.underlying51 hinfo hz0 hz1 hz2 rfl (by decide) _ _ _ rfl HO.out ⟨wr.heap.size, 0, none⟩ 1 1 [.int .u8 (gk : Int)] rfl rfl ?c1 ?c2 (by decide) ?c3 ?c4 ?c5 (wr.heap.size + 1) (by simp) ?_)
          case c1 => exact World.news_of_block (cs := #[.int .u8 (gk : Int)]) (Blk.new wr _ _)
          case c2 => intro u hu; simp at hu; subst hu; rfl
          case c3 => unfold maxLen; omega
          case c4 => omega
          case c5 => simp; omega
          intro g5 cap5 w5 hown5 hgrow hg5 hlt5
          have HO5 := Lib.hid hown5
          have HG5 := Lib.hid hgrow
          have HH5 := Lib.hid hg5
          clear hown5 hgrow hg5
          go_wp2_with fail
          go_roundw
          case rel =>
            refine ⟨j + 1, _, rfl, hlt, by simp, ?_, own_push HG.out hw HH5.out, ch_push HC.out HG.out HG5.out⟩
            rw [HS.out, ← List.append_assoc, ← HPR.out, HD.out, encN_small hm]
            exact BRow.push HO5.out
          case measure => simp only [intOf]; omega
        · have hm2 : decide (128 ≤ (gk : Int)) = true := by simp; omega
          obtain ⟨m2, hm2'⟩ : ∃ m2, m2 = gk % 128 + 128 := ⟨_, rfl⟩
          have hor := or128 gk
          rw [← hm2'] at hor
          have HM2 := Lib.hid hm2'
          clear hm2'
          have HO := Lib.hid (HR.out.below (below1 wr (.cells #[.int .u8 (m2 : Int)] 5)))
          go_wp2_with (at_builtin; refine wpList_append_lies _ rfl (.tmp 20) (.tmp 24) 51 rfl base 5 i0 (.int .u8 0) 1 1 Try.underlying51 hinfo hz0 hz1 hz2 rfl (by decide) _ _ _ rfl HO.out ⟨wr.heap.size, 0, none⟩ 1 1 [.int .u8 (m2 : Int)] rfl rfl ?c1 ?c2 (by decide) ?c3 ?c4 ?c5 (wr.heap.size + 1) (by simp) ?_)
          case c1 => exact World.news_of_block (cs := #[.int .u8 (m2 : Int)]) (Blk.new wr _ _)
          case c2 => intro u hu; simp at hu; subst hu; rfl
          case c3 => unfold maxLen; omega
          case c4 => omega
          case c5 => simp; omega
          intro g5 cap5 w5 hown5 hgrow hg5 hlt5
          have HO5 := Lib.hid hown5
          have HG5 := Lib.hid hgrow
          have HH5 := Lib.hid hg5
          clear hown5 hgrow hg5
          go_wp2_with fail
          go_roundg (gk / 128)
          case measure => omega
          case rel =>
            refine ⟨done ++ [m2], by simp, ?_, BRow.push HO5.out, own_push HG.out hw HH5.out, ch_push HC.out HG.out HG5.out⟩
            rw [HD.out, encN_big (by omega), HM2.out]
            simp
    · have ht : decide ((j : Int) < (ms.length : Int)) = false := by simpa using hlt
      have ht2 : decide (ms.length ≤ j) = true := by simp; omega
      have KR2 := KR.out
      rw [show j = ms.length by omega, List.take_length] at KR2
      have HR2 := Lib.hid KR2
      clear KR KR2
      go_wp2_with fail
      exact bodyPost_ret (v := .tuple #[u, .bool true]) (by simp [results, Try.results28, go_sem]) rfl ⟨_, rfl, HR2.out, KG.out, KC.out⟩
end
end Go.Proofs.Ythknfikjanoflaa
