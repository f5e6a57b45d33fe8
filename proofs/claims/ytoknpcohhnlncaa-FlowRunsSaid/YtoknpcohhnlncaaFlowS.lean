/- flow's state: Done, Value, the closure of Add. -/
import Derived.Test.YtoknpcohhnlncaaFlow
import Derived.Deep.AppendLies
import Derived.Deep.RegionLaw
set_option linter.unusedVariables false
set_option linter.unusedSimpArgs false
namespace Go.Proofs.Ytoknpcohhnlncaa
open Go.RowKit

/-- A row of texts of one's own. -/
def SRow (w : World) (base : Nat) (v : Value) (xs : List ByteArray) : Prop := w.ownsRow base 9 1 v xs.length (xs.map Value.string)

theorem SRow.ch {w w1 : World} {base : Nat} {v : Value} {bs : List ByteArray} {S : Nat → Prop} (h : SRow w base v bs) (hc : Ch S w w1) (hv : ∀ g, v.ownBlock = some g → ¬ S g) : SRow w1 base v bs :=
  ⟨h.1, by
    rcases h.2 with h2 | ⟨g, cap, cur, e, hg, hh, r⟩
    · exact .inl h2
    · exact .inr ⟨g, cap, cur, e, hg, (hc.block g (lt_of_block hh) (hv g (by rw [e]; rfl))).trans hh, r⟩⟩
theorem SRow.slice {w : World} {base : Nat} {v : Value} {bs : List ByteArray} (h : SRow w base v bs) : ∃ a cap, v = .slice a bs.length cap ∧ bs.length ≤ cap := by
  rcases h.2 with ⟨hv, h0⟩ | ⟨g, cap, cur, hv, hg, hh, hn, _⟩
  · exact ⟨none, 0, by rw [hv, h0], by omega⟩
  · exact ⟨_, cap, hv, hn⟩
theorem SRow.at {w : World} {base : Nat} {v : Value} {bs : List ByteArray} (h : SRow w base v bs) {i : Nat} {s : ByteArray} (hi : bs[i]? = some s) : ∃ g cap, v = .slice (some ⟨g, 0, none⟩) bs.length cap ∧ w.cell? ⟨g, i, none⟩ = some (.string s) := by
  rcases h.2 with ⟨hv, h0⟩ | ⟨g, cap, cur, hv, hg, hh, hn, hc, hsz, htake⟩
  · have : bs = [] := List.length_eq_zero_iff.1 h0
    subst this
    cases hi
  · subst hv
    have hl := (List.getElem?_eq_some_iff.1 hi).1
    refine ⟨g, cap, rfl, ?_⟩
    rw [h.cellAt i (by omega)]
    simp [hi]
theorem SRow.own {w : World} {base : Nat} {v : Value} {bs : List ByteArray} (h : SRow w base v bs) {g : Nat} (e : v.ownBlock = some g) : base ≤ g ∧ g < w.heap.size := by
  rcases h.2 with ⟨h2, _⟩ | ⟨g3, cap3, cur3, hv3, hg3, hh, _⟩
  · rw [h2] at e; simp [Value.ownBlock] at e
  · rw [hv3] at e
    obtain rfl : g3 = g := by simpa [Value.ownBlock] using e
    exact ⟨hg3, lt_of_block hh⟩
theorem SRow.nil (w : World) (base : Nat) : SRow w base (.slice none 0 0) [] := World.ownsRow_nil _ _ _ _

/-- A work's state: its block s, its values' own block vb (if any; not below base), its steps, its values. -/
structure St (w : World) (s : Nat) (vb : Option Nat) (base : Nat) (n : Int) (vals : List ByteArray) : Prop where
  box : ∃ v, Blk w s #[.int .i64 n, v] 65 ∧ SRow w base v vals ∧ v.ownBlock = vb
  ne : vb ≠ some s
  small : vals.length ≤ 64

theorem St.ch {w w1 : World} {s : Nat} {vb : Option Nat} {base : Nat} {n : Int} {vals : List ByteArray} {S : Nat → Prop} (h : St w s vb base n vals) (hc : Ch S w w1) (hs : ¬ S s) (hv : ∀ g, vb = some g → ¬ S g) : St w1 s vb base n vals := by
  obtain ⟨v, h1, h2, h3⟩ := h.box
  exact ⟨⟨v, h1.ch hc hs, h2.ch hc (fun g e => hv g (h3 ▸ e)), h3⟩, h.ne, h.small⟩
theorem St.below {w w1 : World} {s : Nat} {vb : Option Nat} {base : Nat} {n : Int} {vals : List ByteArray} (h : St w s vb base n vals) (hb : Below w.heap.size w w1) : St w1 s vb base n vals := h.ch (Ch.of_below (fun _ => False) hb) id (fun _ _ => id)
theorem St.lt {w : World} {s : Nat} {vb : Option Nat} {base : Nat} {n : Int} {vals : List ByteArray} (h : St w s vb base n vals) : s < w.heap.size ∧ ∀ g, vb = some g → g < w.heap.size ∧ base ≤ g := by
  obtain ⟨v, h1, h2, h3⟩ := h.box
  exact ⟨h1.lt, fun g e => ⟨(h2.own (h3 ▸ e)).2, (h2.own (h3 ▸ e)).1⟩⟩

set_option maxRecDepth 100000 in
theorem done_any (s : Nat) (vb : Option Nat) (base : Nat) (n : Int) (vals : List ByteArray) (w : World) (h : St w s vb base n vals) :
    Calls Try.prog 14 #[.pointer (some ⟨s, 0, none⟩)] w fun e w' => e = .returned (.int .i64 (vals.length : Nat)) ∧ Below w.heap.size w w' := by
  obtain ⟨v, h1, h2, h3⟩ := h.box
  obtain ⟨a, cap, rfl, _⟩ := h2.slice
  obtain ⟨q1, q2⟩ := h1.cells
  clear h h1 h2 h3
  go_enter Try.func14, Try.ntmps14
  go_wp2_with fail
  go_ret
  exact ⟨rfl, Ch.below (by (repeat (first | with_reducible assumption | with_reducible exact Ch.refl _ _ | with_reducible refine Ch.drew ?_ | with_reducible refine Ch.alloc ?_ _ | (with_reducible refine Ch.set' ?_ ?_; focus (first | (right; rfl; done) | (left; simp; done) | (left; simp; omega) | (left; omega) | (right; simp; done) | (right; simp; omega))))))⟩

def valueV (vals : List ByteArray) (k : Int) : Value := if 0 ≤ k ∧ k < vals.length then .tuple #[.string (vals.getD k.toNat ⟨#[]⟩), .bool true] else .tuple #[.string ⟨#[]⟩, .bool false]
set_option maxRecDepth 100000 in
set_option maxHeartbeats 4000000 in
theorem value_any (s : Nat) (vb : Option Nat) (base : Nat) (n : Int) (vals : List ByteArray) (k : Int) (w : World) (h : St w s vb base n vals) :
    Calls Try.prog 15 #[.pointer (some ⟨s, 0, none⟩), .int .i64 k] w fun e w' => e = .returned (valueV vals k) ∧ Below w.heap.size w w' := by
  obtain ⟨v, h1, h2, h3⟩ := h.box
  by_cases h0 : k < 0
  · have t0 : decide (k < 0) = true := by simpa using h0
    have hv : valueV vals k = .tuple #[.string ⟨#[]⟩, .bool false] := by unfold valueV; rw [if_neg (by omega)]
    have HV := Lib.hid hv
    clear h h1 h2 h3 h0 hv
    go_enter Try.func15, Try.ntmps15
    go_wp2_with fail
    exact bodyPost_ret (v := .tuple #[.string ⟨#[]⟩, .bool false]) (by simp [results, Try.results15, go_sem]) rfl ⟨by rw [HV.out], Ch.below (by (repeat (first | with_reducible assumption | with_reducible exact Ch.refl _ _ | with_reducible refine Ch.drew ?_ | with_reducible refine Ch.alloc ?_ _ | (with_reducible refine Ch.set' ?_ ?_; focus (first | (right; rfl; done) | (left; simp; done) | (left; simp; omega) | (left; omega) | (right; simp; done) | (right; simp; omega))))))⟩
  have t0 : decide (k < 0) = false := by simpa using h0
  by_cases hk : (vals.length : Int) ≤ k
  · have t1 : decide ((vals.length : Int) ≤ k) = true := by simpa using hk
    have hv : valueV vals k = .tuple #[.string ⟨#[]⟩, .bool false] := by unfold valueV; rw [if_neg (by omega)]
    have HV := Lib.hid hv
    obtain ⟨a, cap, rfl, _⟩ := h2.slice
    obtain ⟨q1, q2⟩ := h1.cells
    clear h h1 h2 h3 h0 hv hk
    go_enter Try.func15, Try.ntmps15
    go_wp2_with fail
    exact bodyPost_ret (v := .tuple #[.string ⟨#[]⟩, .bool false]) (by simp [results, Try.results15, go_sem]) rfl ⟨by rw [HV.out], Ch.below (by (repeat (first | with_reducible assumption | with_reducible exact Ch.refl _ _ | with_reducible refine Ch.drew ?_ | with_reducible refine Ch.alloc ?_ _ | (with_reducible refine Ch.set' ?_ ?_; focus (first | (right; rfl; done) | (left; simp; done) | (left; simp; omega) | (left; omega) | (right; simp; done) | (right; simp; omega))))))⟩
  · obtain ⟨i, rfl⟩ : ∃ i : Nat, k = (i : Int) := ⟨k.toNat, by omega⟩
    have t1 : decide ((vals.length : Int) ≤ (i : Int)) = false := by simpa using hk
    have hi : i < vals.length := by omega
    have t2 : decide (vals.length ≤ i) = false := by simp; omega
    obtain ⟨x, hx⟩ : ∃ x, vals[i]? = some x := ⟨_, List.getElem?_eq_getElem hi⟩
    have hv : valueV vals (i : Int) = .tuple #[.string x, .bool true] := by unfold valueV; rw [if_pos (by omega), Int.toNat_natCast, List.getD_eq_getElem?_getD, hx]; rfl
    have HV := Lib.hid hv
    obtain ⟨g, cap, rfl, hcell⟩ := h2.at hx
    obtain ⟨q1, q2⟩ := h1.cells
    clear h h1 h2 h3 h0 hv hk hx
    go_enter Try.func15, Try.ntmps15
    go_wp2_with fail
    exact bodyPost_ret (v := .tuple #[.string x, .bool true]) (by simp [results, Try.results15, go_sem]) rfl ⟨by rw [HV.out], Ch.below (by (repeat (first | with_reducible assumption | with_reducible exact Ch.refl _ _ | with_reducible refine Ch.drew ?_ | with_reducible refine Ch.alloc ?_ _ | (with_reducible refine Ch.set' ?_ ?_; focus (first | (right; rfl; done) | (left; simp; done) | (left; simp; omega) | (left; omega) | (right; simp; done) | (right; simp; omega))))))⟩

/-- Add's closure: is it this step's turn? -/
theorem turn_any (b1 b2 s : Nat) (vb : Option Nat) (base : Nat) (n : Int) (vals : List ByteArray) (k : Nat) (w : World) (h : St w s vb base n vals) (hb1 : Blk w b1 #[.int .i64 (k : Nat)] 3) (hb2 : Blk w b2 #[.pointer (some ⟨s, 0, none⟩)] 29) :
    Calls Try.prog 31 #[.pointer (some ⟨b1, 0, none⟩), .pointer (some ⟨b2, 0, none⟩)] w fun e w' => e = .returned (.bool (decide (k = vals.length ∧ (k : Int) < n))) ∧ Below w.heap.size w w' := by
  obtain ⟨v, h1, h2, h3⟩ := h.box
  obtain ⟨a, cap, rfl, _⟩ := h2.slice
  obtain ⟨q1, q2⟩ := h1.laterCells
  obtain ⟨q3, q4⟩ := hb1.laterCells
  obtain ⟨q5, q6⟩ := hb2.laterCells
  clear h h1 h2 h3 hb1 hb2
  by_cases hk : k = vals.length
  · have t0 : ((k : Int) == (vals.length : Int)) = true := by simp [hk]
    have t0' : (k == vals.length) = true := by simp [hk]
    by_cases hn : (k : Int) < n
    · have t1 : decide ((k : Int) < n) = true := by simpa using hn
      have hv : decide (k = vals.length ∧ (k : Int) < n) = true := by simpa using ⟨hk, hn⟩
      have HV := Lib.hid hv
      clear hk hn hv
      go_enter Try.func31, Try.ntmps31
      go_wp2_with fail
      refine wp_region_later (by kernel_rfl) (by kernel_rfl) ?_
      repeat (go_big_quiet_step (fail))
      refine wpQuiet_nil ?_
      rintro _ ⟨x, rfl⟩
      go_wp2_with fail
      refine bodyPost_ret (v := .bool true) (by simp [results, Try.results31, go_sem]) rfl ⟨by rw [HV.out], x.h⟩
    · have t1 : decide ((k : Int) < n) = false := by simpa using hn
      have hv : decide (k = vals.length ∧ (k : Int) < n) = false := by simp [hn]
      have HV := Lib.hid hv
      clear hk hn hv
      go_enter Try.func31, Try.ntmps31
      go_wp2_with fail
      refine wp_region_later (by kernel_rfl) (by kernel_rfl) ?_
      repeat (go_big_quiet_step (fail))
      refine wpQuiet_nil ?_
      rintro _ ⟨x, rfl⟩
      go_wp2_with fail
      refine bodyPost_ret (v := .bool false) (by simp [results, Try.results31, go_sem]) rfl ⟨by rw [HV.out], x.h⟩
  · have t0 : ((k : Int) == (vals.length : Int)) = false := by simp; omega
    have t0' : (k == vals.length) = false := by simp [hk]
    have hv : decide (k = vals.length ∧ (k : Int) < n) = false := by simp [hk]
    have HV := Lib.hid hv
    clear hk hv
    go_enter Try.func31, Try.ntmps31
    go_wp2_with fail
    refine wp_region_later (by kernel_rfl) (by kernel_rfl) ?_
    repeat (go_big_quiet_step (fail))
    refine wpQuiet_nil ?_
    rintro _ ⟨x, rfl⟩
    go_wp2_with fail
    refine bodyPost_ret (v := .bool false) (by simp [results, Try.results31, go_sem]) rfl ⟨by rw [HV.out], x.h⟩
end Go.Proofs.Ytoknpcohhnlncaa
