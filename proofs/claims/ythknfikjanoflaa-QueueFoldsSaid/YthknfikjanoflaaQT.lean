/- QueueTwice: plain law and walk. -/
import Derived.Test.YthknfikjanoflaaQN
import Derived.Test.YthknfikjanoflaaKitAll
set_option linter.unusedVariables false
set_option linter.unusedSimpArgs false
namespace Go.Proofs.Ythknfikjanoflaa
open Go.RowKit

theorem flatStr : FlatW Try.prog 9 oS (fun s => s.size ≤ 140737488351232) := FlatW.str Try.underlying9
/-- Behind a log. -/
def runQ (st : QSt) (log : List ByteArray) : QSt := log.foldl (fun s d => (addQ s (sB d)).1) st
theorem runQ_snoc (st : QSt) (log : List ByteArray) (d : ByteArray) : runQ st (log ++ [d]) = (addQ (runQ st log) (sB d)).1 := by unfold runQ; rw [List.foldl_append]; rfl
theorem addQ_len (st : QSt) (l : List Nat) : (addQ st l).1.l.length ≤ st.l.length + 1 ∧ (addQ st l).1.many = st.many + 1 := by
  unfold addQ
  split
  · simp
  · split
    · unfold pushQ
      split <;> simp
    · unfold popQ
      split
      · simp
      · cases st.l <;> simp <;> omega
theorem runQ_len : ∀ (log : List ByteArray) (st : QSt), (runQ st log).l.length ≤ st.l.length + log.length ∧ (runQ st log).many = st.many + log.length
  | [], st => ⟨Nat.le_refl _, rfl⟩
  | d :: log, st => by
    have h1 := addQ_len st (sB d)
    have h2 := runQ_len log (addQ st (sB d)).1
    have e : runQ st (d :: log) = runQ (addQ st (sB d)).1 log := rfl
    rw [e, List.length_cons]
    omega
/-- Data that came already. -/
def Seen (st : QSt) (l : List Nat) : Prop := match parseQ l with
  | none => True
  | some e => if e.push = true then hadF st (e.id : Int) = true else (getA (e.id : Int) st.po).isSome = true
theorem seen_add {st : QSt} {l : List Nat} (h : Seen st l) : addQ st l = ({ st with many := st.many + 1 }, false) := by
  unfold Seen at h
  unfold addQ
  split
  · rfl
  · rename_i e he
    rw [he] at h
    simp only at h
    split
    · rename_i hp
      rw [if_pos hp] at h
      exact if_pos h
    · rename_i hp
      rw [if_neg hp] at h
      exact if_pos h
theorem seen_of_add (st : QSt) (l : List Nat) : Seen (addQ st l).1 l := by
  unfold Seen addQ
  cases hp : parseQ l with
  | none => trivial
  | some e =>
    simp only
    by_cases h : e.push = true
    · rw [if_pos h, if_pos h]
      unfold pushQ
      split
      · rename_i h2
        exact h2
      · unfold hadF
        simp only
        rw [getA_put, if_pos rfl]
        rfl
    · rw [if_neg h, if_neg h]
      unfold popQ
      split
      · rename_i h2
        exact h2
      · split
        · simp only
          rw [getA_put, if_pos rfl]
          rfl
        · simp only
          rw [getA_put, if_pos rfl]
          rfl
theorem had_mono (st : QSt) (l : List Nat) (id : Int) (h : hadF st id = true) : hadF (addQ st l).1 id = true := by
  unfold addQ
  split
  · exact h
  · split
    · unfold pushQ
      split
      · exact h
      · unfold hadF at h ⊢
        simp only
        rw [getA_put]
        split
        · rfl
        · exact h
    · unfold popQ
      split
      · exact h
      · split <;> exact h
theorem got_mono (st : QSt) (l : List Nat) (id : Int) (h : (getA id st.po).isSome = true) : (getA id (addQ st l).1.po).isSome = true := by
  unfold addQ
  split
  · exact h
  · split
    · unfold pushQ
      split <;> exact h
    · unfold popQ
      split
      · exact h
      · split
        · simp only
          rw [getA_put]
          split
          · rfl
          · exact h
        · simp only
          rw [getA_put]
          split
          · rfl
          · exact h
theorem seen_mono {st : QSt} {l : List Nat} (x : List Nat) (h : Seen st l) : Seen (addQ st x).1 l := by
  unfold Seen at h ⊢
  split
  · trivial
  · rename_i e he
    rw [he] at h
    simp only at h
    split
    · rename_i hp
      rw [if_pos hp] at h
      exact had_mono st x _ h
    · rename_i hp
      rw [if_neg hp] at h
      exact got_mono st x _ h
theorem seen_run : ∀ (log : List ByteArray) (st : QSt) (l : List Nat), Seen st l → Seen (runQ st log) l
  | [], _, _, h => h
  | d :: log, st, l, h => seen_run log _ l (seen_mono (sB d) h)
theorem seen_all : ∀ (log : List ByteArray) (st : QSt), ∀ d ∈ log, Seen (runQ st log) (sB d)
  | [], _, _, h => by cases h
  | x :: log, st, d, h => by
    rcases List.mem_cons.1 h with rfl | h
    · exact seen_run log _ _ (seen_of_add st (sB d))
    · exact seen_all log _ d h
theorem seen_many {st : QSt} {l : List Nat} (m : Nat) (h : Seen st l) : Seen { st with many := m } l := h

/-- A queue that the call owns, beside blocks X that it never touches. -/
def QX (w0 w : World) (q b1 b2 : Nat) (st : QSt) (X : Nat → Prop) : Prop := ∃ vb, Qu w q b1 b2 vb w0.heap.size st ∧ Ch (fun _ => False) w0 w ∧ ∀ k, X k → ¬ Qf q b1 b2 vb k ∧ k < w.heap.size
theorem QX.toIn {w0 w : World} {q b1 b2 : Nat} {st : QSt} {X : Nat → Prop} (h : QX w0 w q b1 b2 st X) : QIn w0 w q b1 b2 st := by
  obtain ⟨vb, h1, h2, _⟩ := h
  exact ⟨vb, h1, h2⟩
theorem QIn.toX {w0 w w1 : World} {q b1 b2 : Nat} {st : QSt} {X : Nat → Prop} (h : QIn w0 w q b1 b2 st) (hb : Below w.heap.size w w1) (hx : ∀ k, X k → w.heap.size ≤ k ∧ k < w1.heap.size) : QX w0 w1 q b1 b2 st X := by
  obtain ⟨vb, h1, h2⟩ := h
  exact ⟨vb, h1.below hb, h2.call hb, fun k hk => ⟨fun e => by have := (h1.lt e).2; have := (hx k hk).1; omega, (hx k hk).2⟩⟩
theorem QX.below {w0 w w1 : World} {q b1 b2 : Nat} {st : QSt} {X : Nat → Prop} (h : QX w0 w q b1 b2 st X) (hb : Below w.heap.size w w1) : QX w0 w1 q b1 b2 st X := by
  obtain ⟨vb, h1, h2, h3⟩ := h
  exact ⟨vb, h1.below hb, h2.call hb, fun k hk => ⟨(h3 k hk).1, Nat.lt_of_lt_of_le (h3 k hk).2 hb.size⟩⟩
theorem QX.more {w0 w w1 : World} {q b1 b2 : Nat} {st : QSt} {X Y : Nat → Prop} (h : QX w0 w q b1 b2 st X) (hb : Below w.heap.size w w1) (hy : ∀ k, Y k → X k ∨ (w.heap.size ≤ k ∧ k < w1.heap.size)) : QX w0 w1 q b1 b2 st Y := by
  obtain ⟨vb, h1, h2, h3⟩ := h
  refine ⟨vb, h1.below hb, h2.call hb, fun k hk => ?_⟩
  rcases hy k hk with h | h
  · exact ⟨(h3 k h).1, Nat.lt_of_lt_of_le (h3 k h).2 hb.size⟩
  · exact ⟨fun e => by have := (h1.lt e).2; omega, h.2⟩
theorem QX.add {w0 w : World} {q b1 b2 : Nat} {st : QSt} {X : Nat → Prop} (d : ByteArray) (h : QX w0 w q b1 b2 st X) (hd : d.size ≤ 140737488351232) (hl : st.l.length ≤ 4194304) (hm : st.many < 4194304) {r : QSt × Bool} (hr : addQ st (sB d) = r) :
    Calls Try.prog 17 #[.pointer (some ⟨q, 0, none⟩), .string d] w fun e w' => e = .returned (.bool r.2) ∧ QX w0 w' q b1 b2 r.1 X ∧ Ch (fun k => ¬ X k) w w' := by
  obtain ⟨vb, h1, h2, h3⟩ := h
  subst hr
  refine (add_any d w h1 hd hl hm h2.size).mono fun e w' hp => ?_
  obtain ⟨vb', rfl, a1, a2, a3⟩ := hp
  have hs := a3.size
  refine ⟨rfl, ⟨vb', a1, h2.step a3 (fun k hk e => by have := (h1.lt e).1; omega), fun k hk => ⟨?_, Nat.lt_of_lt_of_le (h3 k hk).2 hs⟩⟩, a3.mono (fun k e hx => (h3 k hx).1 e)⟩
  rintro (e | e | e | e)
  · exact (h3 k hk).1 (.inl e)
  · exact (h3 k hk).1 (.inr (.inl e))
  · exact (h3 k hk).1 (.inr (.inr (.inl e)))
  · rcases a2 k e with e2 | e2
    · exact (h3 k hk).1 (.inr (.inr (.inr e2)))
    · have := (h3 k hk).2
      omega
/-- The loops. -/
def TwIn1 (w0 : World) (q b1 b2 : Nat) (log : List ByteArray) (v : Value) (wi : World) : Prop := ∃ k : Nat, k ≤ log.length ∧ v = .int .i64 (k : Int) ∧ QIn w0 wi q b1 b2 (runQ qst0 (log.take k))
def TwIn2 (w0 : World) (q b1 b2 : Nat) (st : QSt) (n B : Nat) (u : Value) (v : Value) (wi : World) : Prop := ∃ k : Nat, k ≤ n ∧ v = .int .i64 (k : Int) ∧ QX w0 wi q b1 b2 { st with many := st.many + k } (fun g => u.ownBlock = some g) ∧ SRow wi B u (itemsF st)
def TwIn3 (w0 : World) (n B1 B2 : Nat) (u1 u2 : Value) (xs : List ByteArray) (v : Value) (wi : World) : Prop := ∃ k : Nat, k ≤ n ∧ v = .int .i64 (k : Int) ∧ SRow wi B1 u1 xs ∧ SRow wi B2 u2 xs ∧ Ch (fun _ => False) w0 wi

set_option maxRecDepth 100000 in
set_option maxHeartbeats 8000000 in
theorem twice_main (a : Option Addr) (cap : Nat) (log : List ByteArray) (w : World) (ro : RowAt w a 1 oS log) (hd : ∀ d ∈ log, d.size ≤ 140737488351232) (hl : log.length ≤ 100) :
    Calls Try.prog 7 #[.slice a log.length cap] w fun e w' => e = .returned (.bool true) ∧ Below w.heap.size w w' := by
  have t1 : decide ((100 : Int) < (log.length : Int)) = false := by simp; omega
  have t2 : decide (100 < log.length) = false := by simp; omega
  have HN := Lib.hid (qnew_any w)
  have HRO := Lib.hid ro
  have HD := Lib.hid hd
  have hq0 := Lib.hid (show qst0.l.length = 0 ∧ qst0.many = 0 from ⟨rfl, rfl⟩)
  clear ro hd
  go_enter Try.func7, Try.ntmps7
  go_wp2_with fail
  refine HN.out.mono ?_
  intro e w1 hpost
  obtain ⟨q, b1, b2, rfl, Q1⟩ := qnew_in (Ch.refl _ w) hpost
  have K1 := Lib.hid Q1
  clear HN hpost Q1
  go_wp2_with fail
  go_loopw [26] (fun v wi => TwIn1 w q b1 b2 log v wi) (fun i _ => log.length - (intOf i).toNat)
  case atStart => exact ⟨0, Nat.zero_le _, rfl, K1.out⟩
  case round =>
    obtain ⟨k, hk, rfl, Q2⟩ := hrel
    have K2 := Lib.hid Q2
    clear Q2 K1
    by_cases hlt : k < log.length
    · have ht : decide ((k : Int) < (log.length : Int)) = true := by simpa using hlt
      have ht2 : decide (log.length ≤ k) = false := by simpa using hlt
      obtain ⟨d, hp⟩ : ∃ d, log[k]? = some d := ⟨_, List.getElem?_eq_getElem hlt⟩
      obtain ⟨b0, off, rfl, hb0, hcells⟩ := HRO.out k d hp
      have q0 : wr.cell? ⟨b0, off + k, none⟩ = some (.string d) := by
        have := (K2.out.ch.below.cell (p := ⟨b0, _, none⟩) hb0).trans (hcells 0 _ rfl)
        simpa using this
      have hrl := runQ_len (log.take k) qst0
      have hzl : (log.take k).length ≤ 100 := by rw [List.length_take]; omega
      have HT := Lib.hid (show log.take k ++ [d] = log.take (k + 1) by rw [List.take_add_one, hp]; rfl)
      have HAD := Lib.hid (K2.out.add d (HD.out d (List.mem_of_getElem? hp)) (by have := hq0.out; omega) (by have := hq0.out; omega) rfl)
      clear hcells hp hrl hzl
      go_wp2_with fail
      refine HAD.out.mono ?_
      rintro e w3 ⟨rfl, Q3⟩
      rw [← runQ_snoc, HT.out] at Q3
      have K3 := Lib.hid Q3
      clear Q3 HAD K2
      go_wp2_with fail
      go_roundw
      case rel => exact ⟨k + 1, hlt, by simp, K3.out⟩
      case measure => simp only [intOf]; omega
    · have ht : decide ((k : Int) < (log.length : Int)) = false := by simpa using hlt
      have ht2 : decide (k < log.length) = false := by simpa using hlt
      have K3 := K2.out
      rw [show k = log.length by omega, List.take_length] at K3
      obtain ⟨st, hst⟩ : ∃ st, st = runQ qst0 log := ⟨_, rfl⟩
      have HS := Lib.hid (show ∀ d ∈ log, Seen st (sB d) from by rw [hst]; exact seen_all log qst0)
      have hrl := runQ_len log qst0
      rw [← hst] at K3 hrl
      have hsl : st.l.length ≤ 100 := by have := hq0.out; omega
      have hsm : st.many ≤ 100 := by have := hq0.out; omega
      have K4 := Lib.hid K3
      have HI := Lib.hid (K3.items (by omega))
      clear K2 K3 hst hrl hlt hk
      go_wp2_with fail
      refine HI.out.mono ?_
      rintro e w5 ⟨v5, rfl, R5, hb5⟩
      have K5 := Lib.hid (show QX w w5 q b1 b2 { st with many := st.many + 0 } (fun g => v5.ownBlock = some g) from K4.out.toX hb5 (fun k hk => R5.own hk))
      have KR5 := Lib.hid R5
      obtain ⟨a5, cap5, rfl, _⟩ := R5.slice
      obtain ⟨B, hB⟩ : ∃ B, B = wr.heap.size := ⟨_, rfl⟩
      rw [← hB] at KR5
      clear hB R5 hb5 HI K4
      go_wp2_with fail
      go_loopw [38] (fun v wi => TwIn2 w q b1 b2 st log.length B (.slice a5 (itemsF st).length cap5) v wi) (fun i _ => log.length - (intOf i).toNat)
      case atStart => exact ⟨0, Nat.zero_le _, rfl, K5.out, KR5.out⟩
      case round =>
        obtain ⟨j, hj, rfl, Q6, R6⟩ := hrel
        have K6 := Lib.hid Q6
        have KR6 := Lib.hid R6
        clear Q6 R6 K5 KR5
        by_cases hlt : j < log.length
        · have ht3 : decide ((j : Int) < (log.length : Int)) = true := by simpa using hlt
          have ht4 : decide (log.length ≤ j) = false := by simpa using hlt
          obtain ⟨d, hp⟩ : ∃ d, log[j]? = some d := ⟨_, List.getElem?_eq_getElem hlt⟩
          obtain ⟨b0, off, rfl, hb0, hcells⟩ := HRO.out j d hp
          have q0 : wr.cell? ⟨b0, off + j, none⟩ = some (.string d) := by
            have := (K6.out.toIn.ch.below.cell (p := ⟨b0, _, none⟩) hb0).trans (hcells 0 _ rfl)
            simpa using this
          have hmem := List.mem_of_getElem? hp
          have HAD := K6.out.add d (HD.out d hmem) (by show st.l.length ≤ _; omega) (by show st.many + j < _; omega) (seen_add (seen_many _ (HS.out d hmem)))
          have HAD := Lib.hid HAD
          have HU := Lib.hid (show ∀ w', QIn w w' q b1 b2 { st with many := st.many + j + 1 } → QIn w w' q b1 b2 { st with many := st.many + (j + 1) } from fun _ h => h)
          clear hcells hp hmem
          go_wp2_with fail
          refine HAD.out.mono ?_
          rintro e w7 ⟨rfl, Q7, C7⟩
          have K7 := Lib.hid (show QX w w7 q b1 b2 { st with many := st.many + (j + 1) } _ from Q7)
          have KR7 := Lib.hid (KR6.out.ch C7 (fun g e h => h e))
          clear Q7 C7 HAD K6 KR6 HU
          go_wp2_with fail
          go_roundw
          case rel => exact ⟨j + 1, hlt, by simp, K7.out, KR7.out⟩
          case measure => simp only [intOf]; omega
        · have ht3 : decide ((j : Int) < (log.length : Int)) = false := by simpa using hlt
          have ht4 : decide (j < log.length) = false := by simpa using hlt
          have HI := Lib.hid (K6.out.toIn.items (by show st.l.length ≤ _; omega))
          clear hlt
          go_wp2_with fail
          refine HI.out.mono ?_
          rintro e w8 ⟨v8, rfl, R8, hb8⟩
          have R8 : SRow w8 wr.heap.size v8 (itemsF st) := R8
          have KR8 := Lib.hid R8
          have KR9 := Lib.hid (KR6.out.ch (Ch.of_below (fun _ => False) hb8) (fun _ _ => id))
          have KC8 := Lib.hid (K6.out.toIn.ch.call hb8)
          obtain ⟨a8, cap8, rfl, _⟩ := R8.slice
          obtain ⟨B2, hB2⟩ : ∃ B, B = wr.heap.size := ⟨_, rfl⟩
          rw [← hB2] at KR8
          obtain ⟨xs, hxs⟩ : ∃ xs, xs = itemsF st := ⟨_, rfl⟩
          have hxl : xs.length ≤ 100 := by rw [hxs]; simp [itemsF]; omega
          rw [← hxs] at KR8 KR9 ⊢
          clear hxs hB2 R8 hb8 HI K6 KR6 HS
          go_wp2_with fail
          go_loopw [55] (fun v wi => TwIn3 w xs.length B B2 (.slice a5 xs.length cap5) (.slice a8 xs.length cap8) xs v wi) (fun i _ => xs.length - (intOf i).toNat)
          case atStart => exact ⟨0, Nat.zero_le _, rfl, KR9.out, KR8.out, KC8.out⟩
          case round =>
            obtain ⟨i, hi, rfl, RA, RB, CC⟩ := hrel
            have KA := Lib.hid RA
            have KB := Lib.hid RB
            have KC := Lib.hid CC
            clear RA RB CC KR9 KR8 KC8
            by_cases hlt : i < xs.length
            · have ht5 : decide ((i : Int) < (xs.length : Int)) = true := by simpa using hlt
              have ht6 : decide (xs.length ≤ i) = false := by simpa using hlt
              obtain ⟨x, hx⟩ : ∃ x, xs[i]? = some x := ⟨_, List.getElem?_eq_getElem hlt⟩
              obtain ⟨g1, c1, e1, hc1⟩ := KA.out.at hx
              obtain ⟨g2, c2, e2, hc2⟩ := KB.out.at hx
              cases e1
              cases e2
              have hc1b := fun x : Later wr => (x.h.cell (p := ⟨g1, i, none⟩) (cell_spot hc1).2).trans hc1
              have hc2b := fun x : Later wr => (x.h.cell (p := ⟨g2, i, none⟩) (cell_spot hc2).2).trans hc2
              clear hx hc1 hc2
              go_wp2_with fail
              refine wp_region_later (by kernel_rfl) (by kernel_rfl) ?_
              repeat (go_big_quiet_step (fail))
              refine wpQuiet_nil ?_
              rintro _ ⟨y, rfl⟩
              have KA2 := Lib.hid (KA.out.ch (Ch.of_below (fun _ => False) y.h) (fun _ _ => id))
              have KB2 := Lib.hid (KB.out.ch (Ch.of_below (fun _ => False) y.h) (fun _ _ => id))
              have KC2 := Lib.hid (KC.out.call y.h)
              clear KA KB KC hc1b hc2b
              go_wp2_with fail
              go_roundw
              case rel => exact ⟨i + 1, hlt, by simp, KA2.out, KB2.out, KC2.out⟩
              case measure => simp only [intOf]; omega
            · have ht5 : decide ((i : Int) < (xs.length : Int)) = false := by simpa using hlt
              have ht6 : decide (i < xs.length) = false := by simpa using hlt
              go_wp2_with fail
              refine (alive_any _).mono ?_
              rintro e w9 ⟨rfl, hb9⟩
              go_wp2_with fail
              go_ret
              exact ⟨rfl, (KC.out.call hb9).below⟩

set_option maxRecDepth 100000 in
set_option maxHeartbeats 4000000 in
theorem twice_long (a : Option Addr) (len cap : Nat) (w : World) (hl : 100 < len) :
    Calls Try.prog 7 #[.slice a len cap] w fun e w' => e = .returned (.bool true) ∧ Below w.heap.size w w' := by
  have t1 : decide ((100 : Int) < (len : Int)) = true := by simp; omega
  have t2 : decide (100 < len) = true := by simp; omega
  have HN := Lib.hid (qnew_any w)
  clear hl
  go_enter Try.func7, Try.ntmps7
  go_wp2_with fail
  refine HN.out.mono ?_
  intro e w1 hpost
  obtain ⟨q, b1, b2, rfl, Q1⟩ := qnew_in (Ch.refl _ w) hpost
  have K1 := Lib.hid Q1
  clear HN hpost Q1
  go_wp2_with fail
  refine (alive_any _).mono ?_
  rintro e w7 ⟨rfl, hb7⟩
  go_wp2_with fail
  go_ret
  exact ⟨rfl, (K1.out.ch.call hb7).below⟩

/-- QueueTwice answers true. -/
theorem twice_row (a : Option Addr) (cap : Nat) (log : List ByteArray) (w : World) (hlc : log.length ≤ cap) (ro : RowAt w a 1 oS log) (hd : ∀ d ∈ log, d.size ≤ 140737488351232) (hl : log.length * 16 ≤ 140737488351232) :
    Calls Try.prog 7 #[.slice a log.length cap] w fun e w' => e = .returned (.bool true) ∧ Below w.heap.size w w' := by
  by_cases h : log.length ≤ 100
  · exact twice_main a cap log w ro hd h
  · exact twice_long a log.length cap w (by omega)
end Go.Proofs.Ythknfikjanoflaa
