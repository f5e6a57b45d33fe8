/- queue: plain laws of what is written and read; a queue that the call owns; alive, few, name. -/
import Derived.Test.YthknfikjanoflaaQC
set_option linter.unusedVariables false
set_option linter.unusedSimpArgs false
namespace Go.Proofs.Ythknfikjanoflaa
open Go.RowKit

theorem parse_push {id : Nat} {s : ByteArray} (h : id ≤ 1099511627776) (hs : s.size ≤ 900) : parseQ (pushL id s) = some ⟨true, id, s⟩ := by
  have e0 : pushL id s = encN 1 ++ (encN id ++ (encN s.size ++ sB s)) := by rw [enc1]; rfl
  have h1 : numE 0 2 (pushL id s) = (1, 1, 0) := by
    rw [e0, numE_enc (by decide) 2 (by decide), enc1]
    rfl
  have h2 : numE 0 1099511627776 ((pushL id s).drop 1) = (id, (encN id).length, 0) := by
    show numE 0 1099511627776 (encN id ++ (encN s.size ++ sB s)) = _
    rw [numE_enc (by omega) _ (by omega)]
  have h3 : textE 0 900 ((pushL id s).drop (1 + (encN id).length)) = (sB s, (encN s.size).length + s.size, 0) := by
    rw [← List.drop_drop]
    show textE 0 900 ((encN id ++ (encN s.size ++ sB s)).drop _) = _
    rw [List.drop_left]
    have := textE_enc (s := s) (by omega) 900 (by omega) []
    rw [List.append_nil] at this
    exact this
  unfold parseQ
  rw [h1]
  simp only
  rw [h2]
  simp only
  rw [h3]
  simp only [if_true]
  rw [if_pos ⟨trivial, by simp [pushL, sB_length]; omega⟩, bS_sB]
theorem parse_pop {id : Nat} (h : id ≤ 1099511627776) : parseQ (popL id) = some ⟨false, id, ⟨#[]⟩⟩ := by
  have e0 : popL id = encN 2 ++ encN id := by rw [enc2]; rfl
  have h1 : numE 0 2 (popL id) = (2, 1, 0) := by
    rw [e0, numE_enc (by decide) 2 (by decide), enc2]
    rfl
  have h2 : numE 0 1099511627776 ((popL id).drop 1) = (id, (encN id).length, 0) := by
    show numE 0 1099511627776 (encN id) = _
    have := numE_enc (m := id) (by omega) 1099511627776 (by omega) []
    rw [List.append_nil] at this
    exact this
  unfold parseQ
  rw [h1]
  simp only
  rw [h2]
  simp only
  rw [if_neg (by decide), if_pos (by simp [popL]; omega)]
theorem parse_bpush {id : Nat} {s : ByteArray} (h : id ≤ 1099511627776) (hs : s.size ≤ 900) : parseQ (sB (bS (pushL id s))) = some ⟨true, id, s⟩ := by rw [sB_bS (pushL_lt id s), parse_push h hs]
theorem parse_bpop {id : Nat} (h : id ≤ 1099511627776) : parseQ (sB (bS (popL id))) = some ⟨false, id, ⟨#[]⟩⟩ := by rw [sB_bS (popL_lt id), parse_pop h]
theorem pushL_len (id : Nat) (s : ByteArray) (h : id ≤ 1099511627776) (hs : s.size ≤ 900) : (bS (pushL id s)).size ≤ 140737488351232 := by
  have h1 := encN_len 8 id (by omega)
  have h2 := encN_len 8 s.size (by omega)
  rw [bS_size]
  simp [pushL, sB_length]
  omega
theorem popL_len (id : Nat) (h : id ≤ 1099511627776) : (bS (popL id)).size ≤ 140737488351232 := by
  have h1 := encN_len 8 id (by omega)
  rw [bS_size]
  simp [popL]
  omega

/-- A queue that a call that began at w0 owns. -/
def QIn (w0 w : World) (q b1 b2 : Nat) (st : QSt) : Prop := ∃ vb, Qu w q b1 b2 vb w0.heap.size st ∧ Ch (fun _ => False) w0 w
theorem QIn.below {w0 w w1 : World} {q b1 b2 : Nat} {st : QSt} (h : QIn w0 w q b1 b2 st) (hb : Below w.heap.size w w1) : QIn w0 w1 q b1 b2 st := by
  obtain ⟨vb, h1, h2⟩ := h
  exact ⟨vb, h1.below hb, h2.call hb⟩
theorem QIn.ch {w0 w : World} {q b1 b2 : Nat} {st : QSt} (h : QIn w0 w q b1 b2 st) : Ch (fun _ => False) w0 w := h.choose_spec.2
theorem QIn.step {w0 w w1 : World} {q b1 b2 : Nat} {st : QSt} {r : QSt × Bool} {vb : Option Nat} {e : Ending} (h : Qu w q b1 b2 vb w0.heap.size st) (hc : Ch (fun _ => False) w0 w) (hp : QPost q b1 b2 vb w0.heap.size r w e w1) : e = .returned (.bool r.2) ∧ QIn w0 w1 q b1 b2 r.1 := by
  obtain ⟨vb', rfl, h1, h2, h3⟩ := hp
  exact ⟨rfl, vb', h1, hc.step h3 (fun k hk e => by have := (h.lt e).1; omega)⟩
theorem QIn.add {w0 w : World} {q b1 b2 : Nat} {st : QSt} (d : ByteArray) (h : QIn w0 w q b1 b2 st) (hd : d.size ≤ 140737488351232) (hl : st.l.length ≤ 4194304) (hm : st.many < 4194304) {r : QSt × Bool} (hr : addQ st (sB d) = r) :
    Calls Try.prog 17 #[.pointer (some ⟨q, 0, none⟩), .string d] w fun e w' => e = .returned (.bool r.2) ∧ QIn w0 w' q b1 b2 r.1 := by
  obtain ⟨vb, h1, h2⟩ := h
  subst hr
  exact (add_any d w h1 hd hl hm h2.size).mono fun e w' hp => QIn.step h1 h2 hp
theorem QIn.len {w0 w : World} {q b1 b2 : Nat} {st : QSt} (h : QIn w0 w q b1 b2 st) : Calls Try.prog 25 #[.pointer (some ⟨q, 0, none⟩)] w fun e w' => e = .returned (.int .i64 (st.l.length : Nat)) ∧ Below w.heap.size w w' := qlen_any w h.choose_spec.1
theorem QIn.had {w0 w : World} {q b1 b2 : Nat} {st : QSt} (id : Int) (h : QIn w0 w q b1 b2 st) : Calls Try.prog 26 #[.pointer (some ⟨q, 0, none⟩), .int .i64 id] w fun e w' => e = .returned (.bool (hadF st id)) ∧ Below w.heap.size w w' := qhad_any id w h.choose_spec.1
theorem QIn.got {w0 w : World} {q b1 b2 : Nat} {st : QSt} (id : Int) (h : QIn w0 w q b1 b2 st) : Calls Try.prog 18 #[.pointer (some ⟨q, 0, none⟩), .int .i64 id] w fun e w' => e = .returned (gotV st id) ∧ Below w.heap.size w w' := qgot_any id w h.choose_spec.1
theorem QIn.least {w0 w : World} {q b1 b2 : Nat} {st : QSt} (h : QIn w0 w q b1 b2 st) : Calls Try.prog 21 #[.pointer (some ⟨q, 0, none⟩)] w fun e w' => e = .returned (.int .i64 (leastF st : Nat)) ∧ Below w.heap.size w w' := qleast_any w h.choose_spec.1
theorem QIn.items {w0 w : World} {q b1 b2 : Nat} {st : QSt} (h : QIn w0 w q b1 b2 st) (hl : st.l.length ≤ 4194304) : Calls Try.prog 19 #[.pointer (some ⟨q, 0, none⟩)] w (ItemsPost st w) := qitems_any w h.choose_spec.1 hl
/-- Where a queue is made. -/
theorem qnew_in {w0 w : World} (hc : Ch (fun _ => False) w0 w) {e : Ending} {w' : World} (h : NewQPost w e w') : ∃ q b1 b2, e = .returned (.pointer (some ⟨q, 0, none⟩)) ∧ QIn w0 w' q b1 b2 qst0 := by
  obtain ⟨q, b1, b2, rfl, h1, h2⟩ := h
  have hs := hc.size
  refine ⟨q, b1, b2, rfl, none, ⟨?_, h1.mp, h1.mq, h1.nv, h1.n1, by have := h1.hb; omega⟩, hc.call h2⟩
  obtain ⟨v, a1, a2, a3⟩ := h1.box
  refine ⟨v, a1, ?_, a3⟩
  rcases a2 with a2 | ⟨g, off, cap, c1, c2, c3⟩
  · exact .inl a2
  · exact .inr ⟨g, off, cap, c1, by omega, c3⟩

def ba : ByteArray := ⟨#[97]⟩
def bb : ByteArray := ⟨#[98]⟩
def s1 : QSt := ⟨1, [(ba, 0)], [(1, true)], []⟩
def s2 : QSt := ⟨2, [(ba, 0), (bb, 1)], [(1, true), (2, true)], []⟩
def s3 : QSt := ⟨3, [(bb, 1)], [(1, true), (2, true)], [(7, (ba, true))]⟩
def s4 : QSt := ⟨4, [(bb, 1)], [(1, true), (2, true)], [(7, (ba, true))]⟩
theorem al1 : addQ qst0 (sB (bS (pushL 1 ba))) = (s1, true) := by unfold addQ; rw [parse_bpush (by decide) (by decide)]; rfl
theorem al2 : addQ s1 (sB (bS (pushL 2 bb))) = (s2, true) := by unfold addQ; rw [parse_bpush (by decide) (by decide)]; rfl
theorem al3 : addQ s2 (sB (bS (popL 7))) = (s3, true) := by unfold addQ; rw [parse_bpop (by decide)]; rfl
theorem al4 : addQ s3 (sB (bS (popL 7))) = (s4, false) := by unfold addQ; rw [parse_bpop (by decide)]; rfl

set_option maxRecDepth 100000 in
set_option maxHeartbeats 8000000 in
theorem alive_any (w : World) : Calls Try.prog 9 #[] w fun e w' => e = .returned (.bool true) ∧ Below w.heap.size w w' := by
  have n1 := Lib.hid (fun w2 => push_ok 1 ba w2 (by decide) (by decide))
  have n2 := Lib.hid (fun w2 => push_ok 2 bb w2 (by decide) (by decide))
  have n3 := Lib.hid (fun w2 => pop_ok 7 w2 (by decide))
  obtain ⟨d1, hd1⟩ : ∃ d, d = bS (pushL 1 ba) := ⟨_, rfl⟩
  obtain ⟨d2, hd2⟩ : ∃ d, d = bS (pushL 2 bb) := ⟨_, rfl⟩
  obtain ⟨d3, hd3⟩ : ∃ d, d = bS (popL 7) := ⟨_, rfl⟩
  have a1 := Lib.hid al1
  have a2 := Lib.hid al2
  have a3 := Lib.hid al3
  have a4 := Lib.hid al4
  have z1 := Lib.hid (pushL_len 1 ba (by decide) (by decide))
  have z2 := Lib.hid (pushL_len 2 bb (by decide) (by decide))
  have z3 := Lib.hid (popL_len 7 (by decide))
  rw [← hd1] at n1 a1 z1
  rw [← hd2] at n2 a2 z2
  rw [← hd3] at n3 a3 a4 z3
  clear hd1 hd2 hd3
  have HN := Lib.hid (qnew_any w)
  go_enter Try.func9, Try.ntmps9
  go_wp2_with fail
  refine HN.out.mono ?_
  intro e w1 hpost
  obtain ⟨q, b1, b2, rfl, Q1⟩ := qnew_in (Ch.refl _ w) hpost
  have K1 := Lib.hid Q1
  clear HN hpost Q1
  go_wp2_with fail
  refine (n1.out w1).mono ?_
  rintro e w2 ⟨rfl, hb2⟩
  have K2 := Lib.hid (K1.out.below hb2)
  clear hb2 K1
  go_wp2_with fail
  refine (n2.out w2).mono ?_
  rintro e w3 ⟨rfl, hb3⟩
  have K3 := Lib.hid (K2.out.below hb3)
  clear hb3 K2
  go_wp2_with fail
  refine (n3.out w3).mono ?_
  rintro e w4 ⟨rfl, hb4⟩
  have K4 := Lib.hid (K3.out.below hb4)
  clear hb4 K3
  go_wp2_with fail
  refine (K4.out.add d1 z1.out (by decide) (by decide) a1.out).mono ?_
  rintro e w5 ⟨rfl, Q5⟩
  have K5 := Lib.hid Q5
  clear Q5 K4
  go_wp2_with fail
  refine (K5.out.add d2 z2.out (by decide) (by decide) a2.out).mono ?_
  rintro e w6 ⟨rfl, Q6⟩
  have K6 := Lib.hid Q6
  clear Q6 K5
  go_wp2_with fail
  refine (K6.out.add d3 z3.out (by decide) (by decide) a3.out).mono ?_
  rintro e w7 ⟨rfl, Q7⟩
  have K7 := Lib.hid Q7
  clear Q7 K6
  go_wp2_with fail
  refine (K7.out.add d3 z3.out (by decide) (by decide) a4.out).mono ?_
  rintro e w8 ⟨rfl, Q8⟩
  have K8 := Lib.hid Q8
  clear Q8 K7
  go_wp2_with fail
  have HG := Lib.hid (show Calls Try.prog 18 #[.pointer (some ⟨q, 0, none⟩), .int .i64 7] w8 fun e w' => e = .returned (.tuple #[.string ⟨#[97]⟩, .bool true, .bool true]) ∧ Below w8.heap.size w8 w' from K8.out.got 7)
  refine HG.out.mono ?_
  rintro e w9 ⟨rfl, hb9⟩
  have K9 := Lib.hid (K8.out.below hb9)
  have HI := Lib.hid (K9.out.items (by decide))
  clear hb9 K8 HG
  go_wp2_with fail
  refine HI.out.mono ?_
  rintro e w10 ⟨v, rfl, R10, hb10⟩
  have K10 := Lib.hid (K9.out.below hb10)
  obtain ⟨g, cap, rfl, hc10⟩ := R10.at (i := 0) (s := ⟨#[98]⟩) rfl
  have hil : (itemsF s4).length = 1 := rfl
  clear R10
  have HD := Lib.hid (fun x : Later w10 => show Calls Try.prog 26 #[.pointer (some ⟨q, 0, none⟩), .int .i64 1] x.w fun e w' => e = .returned (.bool true) ∧ Below x.w.heap.size x.w w' from (K10.out.below x.h).had 1)
  have HD7 := Lib.hid (fun x : Later w10 => show Calls Try.prog 26 #[.pointer (some ⟨q, 0, none⟩), .int .i64 7] x.w fun e w' => e = .returned (.bool false) ∧ Below x.w.heap.size x.w w' from (K10.out.below x.h).had 7)
  have HL := Lib.hid (fun x : Later w10 => show Calls Try.prog 21 #[.pointer (some ⟨q, 0, none⟩)] x.w fun e w' => e = .returned (.int .i64 1) ∧ Below x.w.heap.size x.w w' from (K10.out.below x.h).least)
  go_wp2_with fail
  refine (HD.out ⟨w10, Below.refl _ _⟩).mono ?_
  rintro e w11 ⟨rfl, hb11⟩
  have C11 := hb11
  go_wp2_with fail
  refine (HD7.out ⟨w11, C11⟩).mono ?_
  rintro e w12 ⟨rfl, hb12⟩
  have C12 := C11.trans (hb12.mono C11.size)
  go_wp2_with fail
  refine (HL.out ⟨w12, C12⟩).mono ?_
  rintro e w13 ⟨rfl, hb13⟩
  have C13 := Lib.hid (C12.trans (hb13.mono C12.size))
  go_wp2_with fail
  go_ret
  exact ⟨rfl, (K10.out.ch.call C13.out).below⟩
end Go.Proofs.Ythknfikjanoflaa
