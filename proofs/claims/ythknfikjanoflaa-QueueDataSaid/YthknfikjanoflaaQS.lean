/- queue's state: New, Len, Had, Got, Least, Items. -/
import Derived.Test.YthknfikjanoflaaQP
import Derived.Test.YthknfikjanoflaaMap
import Derived.Test.YthknfikjanoflaaOff
import Derived.Test.YthknfikjanoflaaSRow
set_option linter.unusedVariables false
set_option linter.unusedSimpArgs false
namespace Go.Proofs.Ythknfikjanoflaa
open Go.RowKit

/-- A queue's state: how many data came, the items that are there, the pushes, the pops and what they got. -/
structure QSt where
  many : Nat
  l : List (ByteArray × Nat)
  pu : List (Int × Bool)
  po : List (Int × (ByteArray × Bool))
def itemO (x : ByteArray × Nat) : List Value := [.string x.1, .int .i64 (x.2 : Nat)]
def gotO (g : ByteArray × Bool) : Value := .agg #[.string g.1, .bool g.2]
theorem itemO_len (x : ByteArray × Nat) : (itemO x).length = 2 := rfl

/-- A queue in memory: its struct q, its maps b1 and b2, its items' own block vb (if any; not below base). -/
structure Qu (w : World) (q b1 b2 : Nat) (vb : Option Nat) (base : Nat) (st : QSt) : Prop where
  box : ∃ v, Blk w q #[.int .i64 (st.many : Nat), v, .map (some b1), .map (some b2)] 72 ∧ ORow 2 itemO w base v st.l ∧ v.ownBlock = vb
  mp : MapB w b1 (Value.int .i64) Value.bool st.pu
  mq : MapB w b2 (Value.int .i64) gotO st.po
  nv : vb ≠ some q ∧ vb ≠ some b1 ∧ vb ≠ some b2
  n1 : q ≠ b1 ∧ q ≠ b2 ∧ b1 ≠ b2
  hb : base ≤ q ∧ base ≤ b1 ∧ base ≤ b2
def Qf (q b1 b2 : Nat) (vb : Option Nat) (k : Nat) : Prop := k = q ∨ k = b1 ∨ k = b2 ∨ vb = some k

theorem Qu.ch {w w1 : World} {q b1 b2 : Nat} {vb : Option Nat} {base : Nat} {st : QSt} {S : Nat → Prop} (h : Qu w q b1 b2 vb base st) (hc : Ch S w w1) (hs : ∀ k, Qf q b1 b2 vb k → ¬ S k) : Qu w1 q b1 b2 vb base st := by
  obtain ⟨v, h1, h2, h3⟩ := h.box
  exact ⟨⟨v, h1.ch hc (hs _ (.inl rfl)), h2.ch hc (fun g e => hs g (.inr (.inr (.inr (h3 ▸ e))))), h3⟩, h.mp.ch hc (hs _ (.inr (.inl rfl))), h.mq.ch hc (hs _ (.inr (.inr (.inl rfl)))), h.nv, h.n1, h.hb⟩
theorem Qu.below {w w1 : World} {q b1 b2 : Nat} {vb : Option Nat} {base : Nat} {st : QSt} (h : Qu w q b1 b2 vb base st) (hb : Below w.heap.size w w1) : Qu w1 q b1 b2 vb base st := h.ch (Ch.of_below (fun _ => False) hb) (fun _ _ => id)
/-- All that a queue holds lies in memory, not below base. -/
theorem Qu.lt {w : World} {q b1 b2 : Nat} {vb : Option Nat} {base : Nat} {st : QSt} (h : Qu w q b1 b2 vb base st) {k : Nat} (hk : Qf q b1 b2 vb k) : base ≤ k ∧ k < w.heap.size := by
  obtain ⟨v, h1, h2, h3⟩ := h.box
  rcases hk with rfl | rfl | rfl | hk
  · exact ⟨h.hb.1, h1.lt⟩
  · exact ⟨h.hb.2.1, h.mp.lt⟩
  · exact ⟨h.hb.2.2, h.mq.lt⟩
  · exact h2.own (by rw [h3, hk])

def qst0 : QSt := ⟨0, [], [], []⟩
def NewQPost (w : World) (e : Ending) (w' : World) : Prop :=
  ∃ q b1 b2, e = .returned (.pointer (some ⟨q, 0, none⟩)) ∧ Qu w' q b1 b2 none w.heap.size qst0 ∧ Below w.heap.size w w'
set_option maxRecDepth 100000 in
theorem qnew_any (w : World) : Calls Try.prog 15 #[] w (NewQPost w) := by
  have hmm := @run_makeMap Try.prog
  go_enter Try.func15, Try.ntmps15
  go_wp2_with fail
  have B1 := (MapB.new (β := Bool) w (Value.int .i64) Value.bool).below (below1 _ (.map #[] 0))
  have B2 := (MapB.new (β := ByteArray × Bool) (w.alloc (.map #[] 0)) (Value.int .i64) gotO)
  rw [show (w.alloc (.map #[] 0)).heap.size = w.heap.size + 1 by simp] at B2
  have B3 := Blk.new ((w.alloc (.map #[] 0)).alloc (.map #[] 0)) #[.int .i64 0, .slice none 0 0, .map (some w.heap.size), .map (some (w.heap.size + 1))] 72
  rw [show ((w.alloc (.map #[] 0)).alloc (.map #[] 0)).heap.size = w.heap.size + 1 + 1 by simp] at B3
  go_ret
  refine ⟨_, _, _, rfl, ⟨⟨_, B3, ORow.nil _ _, rfl⟩, B1.below (below1 _ _), B2.below (below1 _ _), by simp, by omega, by omega⟩, Ch.below (by (repeat (first | with_reducible assumption | with_reducible exact Ch.refl _ _ | with_reducible refine Ch.drew ?_ | with_reducible refine Ch.alloc ?_ _ | (with_reducible refine Ch.set' ?_ ?_; focus (first | (right; rfl; done) | (left; simp; done) | (left; simp; omega) | (left; omega) | (right; simp; done) | (right; simp; omega))))))⟩

set_option maxRecDepth 100000 in
theorem qlen_any {q b1 b2 : Nat} {vb : Option Nat} {base : Nat} {st : QSt} (w : World) (h : Qu w q b1 b2 vb base st) :
    Calls Try.prog 25 #[.pointer (some ⟨q, 0, none⟩)] w fun e w' => e = .returned (.int .i64 (st.l.length : Nat)) ∧ Below w.heap.size w w' := by
  obtain ⟨v, h1, h2, h3⟩ := h.box
  obtain ⟨a, cap, rfl, _, _⟩ := h2.slice
  obtain ⟨q1, q2⟩ := h1.cells
  clear h h1 h2 h3
  go_enter Try.func25, Try.ntmps25
  go_wp2_with fail
  go_ret
  exact ⟨rfl, Ch.below (by (repeat (first | with_reducible assumption | with_reducible exact Ch.refl _ _ | with_reducible refine Ch.drew ?_ | with_reducible refine Ch.alloc ?_ _ | (with_reducible refine Ch.set' ?_ ?_; focus (first | (right; rfl; done) | (left; simp; done) | (left; simp; omega) | (left; omega) | (right; simp; done) | (right; simp; omega))))))⟩

theorem keyI : KeyT Try.prog 3 (Value.int .i64) := keyInt Try.underlying3
theorem zeroBool (w : World) : (zeroValue 4).run Try.prog w = .ok (.bool false) w := by kernel_rfl
theorem zeroGot (w : World) : (zeroValue 76).run Try.prog w = .ok (.agg #[.string ⟨#[]⟩, .bool false]) w := by kernel_rfl

def hadF (st : QSt) (id : Int) : Bool := (getA id st.pu).getD false
set_option maxRecDepth 100000 in
theorem qhad_any {q b1 b2 : Nat} {vb : Option Nat} {base : Nat} {st : QSt} (id : Int) (w : World) (h : Qu w q b1 b2 vb base st) :
    Calls Try.prog 26 #[.pointer (some ⟨q, 0, none⟩), .int .i64 id] w fun e w' => e = .returned (.bool (hadF st id)) ∧ Below w.heap.size w w' := by
  obtain ⟨v, h1, h2, h3⟩ := h.box
  obtain ⟨q1, q2⟩ := h1.cells
  have hlk := h.mp.look keyI Try.underlying68 (zeroBool w) id false
  have hlv : lookV Value.bool (.bool false) (getA id st.pu) false = .bool (hadF st id) := by unfold lookV hadF; cases getA id st.pu <;> rfl
  rw [hlv] at hlk
  clear h h1 h2 h3
  go_enter Try.func26, Try.ntmps26
  go_wp2_with fail
  go_ret
  exact ⟨rfl, Ch.below (by (repeat (first | with_reducible assumption | with_reducible exact Ch.refl _ _ | with_reducible refine Ch.drew ?_ | with_reducible refine Ch.alloc ?_ _ | (with_reducible refine Ch.set' ?_ ?_; focus (first | (right; rfl; done) | (left; simp; done) | (left; simp; omega) | (left; omega) | (right; simp; done) | (right; simp; omega))))))⟩

def gotV (st : QSt) (id : Int) : Value := match getA id st.po with
  | some g => .tuple #[.string g.1, .bool g.2, .bool true]
  | none => .tuple #[.string ⟨#[]⟩, .bool false, .bool false]
set_option maxRecDepth 100000 in
theorem qgot_any {q b1 b2 : Nat} {vb : Option Nat} {base : Nat} {st : QSt} (id : Int) (w : World) (h : Qu w q b1 b2 vb base st) :
    Calls Try.prog 18 #[.pointer (some ⟨q, 0, none⟩), .int .i64 id] w fun e w' => e = .returned (gotV st id) ∧ Below w.heap.size w w' := by
  obtain ⟨v, h1, h2, h3⟩ := h.box
  obtain ⟨q1, q2⟩ := h1.cells
  have hlk := h.mq.look keyI Try.underlying69 (zeroGot w) id true
  obtain ⟨s, o, i, hv, hlv⟩ : ∃ (s : ByteArray) (o i : Bool), gotV st id = .tuple #[.string s, .bool o, .bool i] ∧ lookV gotO (.agg #[.string ⟨#[]⟩, .bool false]) (getA id st.po) true = .tuple #[.agg #[.string s, .bool o], .bool i] := by
    unfold gotV
    cases getA id st.po with
    | none => exact ⟨_, _, _, rfl, rfl⟩
    | some g => exact ⟨_, _, _, rfl, rfl⟩
  rw [hlv] at hlk
  have HV := Lib.hid hv
  clear h h1 h2 h3 hv hlv
  go_enter Try.func18, Try.ntmps18
  go_wp2_with fail
  obtain ⟨z1, z2⟩ := (Blk.new w #[.string s, .bool o] 76).laterCells
  have HB := Lib.hid (below1 w (.cells #[.string s, .bool o] 76))
  refine wp_region_later (by kernel_rfl) (by kernel_rfl) ?_
  repeat (go_big_quiet_step (fail))
  refine wpQuiet_nil ?_
  rintro _ ⟨x, rfl⟩
  go_wp2_with fail
  exact bodyPost_ret (v := .tuple #[.string s, .bool o, .bool i]) (by simp [results, Try.results18, go_sem]) rfl ⟨by rw [HV.out], HB.out.trans (x.h.mono HB.out.size)⟩

def leastF (st : QSt) : Nat := match st.l with
  | [] => st.many
  | x :: _ => x.2
set_option maxRecDepth 100000 in
theorem qleast_any {q b1 b2 : Nat} {vb : Option Nat} {base : Nat} {st : QSt} (w : World) (h : Qu w q b1 b2 vb base st) :
    Calls Try.prog 21 #[.pointer (some ⟨q, 0, none⟩)] w fun e w' => e = .returned (.int .i64 (leastF st : Nat)) ∧ Below w.heap.size w w' := by
  obtain ⟨v, h1, h2, h3⟩ := h.box
  obtain ⟨q1, q2⟩ := h1.cells
  cases hl : st.l with
  | nil =>
    have hv : leastF st = st.many := by unfold leastF; rw [hl]
    obtain ⟨a, cap, rfl, _, _⟩ := h2.slice
    rw [hl] at q1
    rw [hv]
    clear h h1 h2 h3 hl hv
    go_enter Try.func21, Try.ntmps21
    go_wp2_with fail
    go_ret
    exact ⟨rfl, Ch.below (by (repeat (first | with_reducible assumption | with_reducible exact Ch.refl _ _ | with_reducible refine Ch.drew ?_ | with_reducible refine Ch.alloc ?_ _ | (with_reducible refine Ch.set' ?_ ?_; focus (first | (right; rfl; done) | (left; simp; done) | (left; simp; omega) | (left; omega) | (right; simp; done) | (right; simp; omega))))))⟩
  | cons x l =>
    have hv : leastF st = x.2 := by unfold leastF; rw [hl]
    obtain ⟨g, off, cap, rfl, hat⟩ := h2.at itemO_len (i := 0) (x := x) (by rw [hl]; rfl)
    have c1 : w.cell? ⟨g, off + 1, none⟩ = some (.int .i64 (x.2 : Nat)) := by simpa using hat 1 _ rfl
    have hpos : 0 < st.l.length := by rw [hl]; simp
    have hnl : ¬ st.l = [] := by rw [hl]; simp
    have hne : (st.l.length == 0) = false := by rw [hl]; simp
    have hne2 : ((st.l.length : Int) == 0) = false := by rw [hl]; simp; omega
    rw [hv]
    clear h h1 h2 h3 hl hv hat
    go_enter Try.func21, Try.ntmps21
    go_wp2_with fail
    go_ret
    exact ⟨rfl, Ch.below (by (repeat (first | with_reducible assumption | with_reducible exact Ch.refl _ _ | with_reducible refine Ch.drew ?_ | with_reducible refine Ch.alloc ?_ _ | (with_reducible refine Ch.set' ?_ ?_; focus (first | (right; rfl; done) | (left; simp; done) | (left; simp; omega) | (left; omega) | (right; simp; done) | (right; simp; omega))))))⟩

def itemsF (st : QSt) : List ByteArray := st.l.map (·.1)
def ItemsPost (st : QSt) (w : World) (e : Ending) (w' : World) : Prop := ∃ v, e = .returned v ∧ SRow w' w.heap.size v (itemsF st) ∧ Below w.heap.size w w'
/-- Items' loop. -/
def ItemsIn (w : World) (st : QSt) (v1 v2 : Value) (wi : World) : Prop :=
  ∃ j u, u = v1 ∧ j ≤ st.l.length ∧ v2 = .int .i64 (j : Nat) ∧ SRow wi w.heap.size u ((st.l.take j).map (·.1)) ∧ Ch (fun _ => False) w wi
set_option maxRecDepth 100000 in
set_option maxHeartbeats 4000000 in
theorem qitems_any {q b1 b2 : Nat} {vb : Option Nat} {base : Nat} {st : QSt} (w : World) (h : Qu w q b1 b2 vb base st) (hl : st.l.length ≤ 4194304) :
    Calls Try.prog 19 #[.pointer (some ⟨q, 0, none⟩)] w (ItemsPost st w) := by
  obtain ⟨v, h1, h2, h3⟩ := h.box
  obtain ⟨q1, q2⟩ := h1.cells
  have H2 := Lib.hid h2
  obtain ⟨a, cap, rfl, _, _⟩ := h2.slice
  clear h h1 h2 h3
  go_enter Try.func19, Try.ntmps19
  go_wp2_with fail
  go_loopw [3, 11] (fun v1 v2 wi => ItemsIn w st v1 v2 wi) (fun _ i _ => st.l.length - (intOf i).toNat)
  case atStart => exact ⟨0, _, rfl, Nat.zero_le _, rfl, SRow.nil _ _, Ch.refl _ _⟩
  case round =>
    obtain ⟨j, u, rfl, hj, rfl, R, C5⟩ := hrel
    have KR := Lib.hid R
    have KC := Lib.hid C5
    have hsz := C5.size
    clear R C5
    by_cases hlt : j < st.l.length
    · have ht : decide ((j : Int) < (st.l.length : Int)) = true := by simpa using hlt
      have ht2 : decide (st.l.length ≤ j) = false := by simpa using hlt
      obtain ⟨x, hp⟩ : ∃ x, st.l[j]? = some x := ⟨_, List.getElem?_eq_getElem hlt⟩
      obtain ⟨g, off, cap2, e, hat⟩ := (H2.out.ch KC.out (fun _ _ => id)).at itemO_len hp
      cases e
      have c0 : wr.cell? ⟨g, off + j * 2, none⟩ = some (.string x.1) := by simpa using hat 0 _ rfl
      have c1 : wr.cell? ⟨g, off + j * 2 + 1, none⟩ = some (.int .i64 (x.2 : Nat)) := by simpa [Nat.add_assoc] using hat 1 _ rfl
      obtain ⟨pr, hpr⟩ : ∃ pr, pr = (st.l.take j).map (·.1) := ⟨_, rfl⟩
      rw [← hpr] at KR
      have KR1 := Lib.hid ((KR.out.ch (Ch.of_below (fun _ => False) (below2 wr (.cells #[.string x.1, .int .i64 (x.2 : Nat)] 79) (.cells #[.string x.1] 9))) (fun _ _ => id)))
      have HT := Lib.hid (show pr ++ [x.1] = (st.l.take (j + 1)).map (·.1) by rw [hpr, List.take_add_one, hp]; simp)
      have hlen : pr.length ≤ 4194304 := by rw [hpr]; simp; omega
      clear hat KR hp hpr
      go_wp2_with (at_builtin; refine wpList_append_str rfl (.tmp 15) (.tmp 18) rfl rfl rfl KR1.out (Blk.new' (by simp)) ?c1 ?c2 ?_)
      any_goals (first | exact hlen | (simp; omega) | omega)
      intro g5 cap5 w5 hown5 hgrow5 hg5 hlt5
      rw [HT.out] at hown5
      have KR5 := Lib.hid hown5
      have KC5 := Lib.hid (((KC.out.call (below2 wr (.cells #[.string x.1, .int .i64 (x.2 : Nat)] 79) (.cells #[.string x.1] 9)))).step (Ch.of_grown hgrow5) (fun k hk e => by have := (KR1.out.own e.symm).1; omega))
      clear hown5 hgrow5 hg5 hlt5 KR1 KC c0 c1
      go_wp2_with fail
      go_roundw
      case rel => exact ⟨j + 1, _, rfl, hlt, by simp, KR5.out, KC5.out⟩
      case measure => simp only [intOf]; omega
    · have ht : decide ((j : Int) < (st.l.length : Int)) = false := by simpa using hlt
      have ht2 : decide (st.l.length ≤ j) = true := by simp; omega
      have KR1 := KR.out
      rw [show j = st.l.length by omega, List.take_length] at KR1
      have KR2 := Lib.hid KR1
      clear KR KR1
      go_wp2_with fail
      exact bodyPost_ret (v := u) (by simp [results, Try.results19, go_sem]) rfl ⟨u, rfl, KR2.out, KC.out.below⟩
end Go.Proofs.Ythknfikjanoflaa
