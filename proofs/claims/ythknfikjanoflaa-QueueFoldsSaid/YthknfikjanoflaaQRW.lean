/- QueueTrims: the walk. -/
import Derived.Test.YthknfikjanoflaaQR
set_option linter.unusedVariables false
set_option linter.unusedSimpArgs false
namespace Go.Proofs.Ythknfikjanoflaa
open Go.RowKit

/-- Two queues that the call owns, apart. -/
def QQ (w0 w : World) (q b1 b2 p c1 c2 : Nat) (sq sp : QSt) : Prop :=
  ∃ vb vc, Qu w q b1 b2 vb w0.heap.size sq ∧ Qu w p c1 c2 vc w0.heap.size sp ∧ Ch (fun _ => False) w0 w ∧ ∀ k, Qf q b1 b2 vb k → ¬ Qf p c1 c2 vc k
theorem QQ.q {w0 w : World} {q b1 b2 p c1 c2 : Nat} {sq sp : QSt} (h : QQ w0 w q b1 b2 p c1 c2 sq sp) : QIn w0 w q b1 b2 sq := by
  obtain ⟨vb, vc, h1, h2, h3, h4⟩ := h
  exact ⟨vb, h1, h3⟩
theorem QQ.p {w0 w : World} {q b1 b2 p c1 c2 : Nat} {sq sp : QSt} (h : QQ w0 w q b1 b2 p c1 c2 sq sp) : QIn w0 w p c1 c2 sp := by
  obtain ⟨vb, vc, h1, h2, h3, h4⟩ := h
  exact ⟨vc, h2, h3⟩
theorem QQ.below {w0 w w1 : World} {q b1 b2 p c1 c2 : Nat} {sq sp : QSt} (h : QQ w0 w q b1 b2 p c1 c2 sq sp) (hb : Below w.heap.size w w1) : QQ w0 w1 q b1 b2 p c1 c2 sq sp := by
  obtain ⟨vb, vc, h1, h2, h3, h4⟩ := h
  exact ⟨vb, vc, h1.below hb, h2.below hb, h3.call hb, h4⟩
theorem QQ.swap {w0 w : World} {q b1 b2 p c1 c2 : Nat} {sq sp : QSt} (h : QQ w0 w q b1 b2 p c1 c2 sq sp) : QQ w0 w p c1 c2 q b1 b2 sp sq := by
  obtain ⟨vb, vc, h1, h2, h3, h4⟩ := h
  exact ⟨vc, vb, h2, h1, h3, fun k hk hq => h4 k hq hk⟩
theorem QQ.addq {w0 w : World} {q b1 b2 p c1 c2 : Nat} {sq sp : QSt} (d : ByteArray) (h : QQ w0 w q b1 b2 p c1 c2 sq sp) (hd : d.size ≤ 140737488351232) (hl : sq.l.length ≤ 4194304) (hm : sq.many < 4194304) {r : QSt × Bool} (hr : addQ sq (sB d) = r) :
    Calls Try.prog 17 #[.pointer (some ⟨q, 0, none⟩), .string d] w fun e w' => e = .returned (.bool r.2) ∧ QQ w0 w' q b1 b2 p c1 c2 r.1 sp := by
  obtain ⟨vb, vc, h1, h2, h3, h4⟩ := h
  subst hr
  refine (add_any d w h1 hd hl hm h3.size).mono fun e w' hp => ?_
  obtain ⟨vb', rfl, a1, a2, a3⟩ := hp
  refine ⟨rfl, vb', vc, a1, h2.ch a3 (fun k hk hq => h4 k hq hk), h3.step a3 (fun k hk e => by have := (h1.lt e).1; omega), fun k hk hp => ?_⟩
  rcases hk with e | e | e | e
  · exact h4 k (.inl e) hp
  · exact h4 k (.inr (.inl e)) hp
  · exact h4 k (.inr (.inr (.inl e))) hp
  · rcases a2 k e with e2 | e2
    · exact h4 k (.inr (.inr (.inr e2))) hp
    · have := (h2.lt hp).2
      omega
theorem QQ.addp {w0 w : World} {q b1 b2 p c1 c2 : Nat} {sq sp : QSt} (d : ByteArray) (h : QQ w0 w q b1 b2 p c1 c2 sq sp) (hd : d.size ≤ 140737488351232) (hl : sp.l.length ≤ 4194304) (hm : sp.many < 4194304) {r : QSt × Bool} (hr : addQ sp (sB d) = r) :
    Calls Try.prog 17 #[.pointer (some ⟨p, 0, none⟩), .string d] w fun e w' => e = .returned (.bool r.2) ∧ QQ w0 w' q b1 b2 p c1 c2 sq r.1 :=
  (h.swap.addq d hd hl hm hr).mono fun e w' ⟨a, b⟩ => ⟨a, b.swap⟩
theorem qnew_two {w0 w : World} {q b1 b2 : Nat} {sq : QSt} (hq : QIn w0 w q b1 b2 sq) {e : Ending} {w' : World} (h : NewQPost w e w') : ∃ p c1 c2, e = .returned (.pointer (some ⟨p, 0, none⟩)) ∧ QQ w0 w' q b1 b2 p c1 c2 sq qst0 := by
  have hc := hq.ch
  have hs := hc.size
  obtain ⟨vb, h1, h2⟩ := hq
  obtain ⟨p, c1, c2, rfl, a1, a2⟩ := h
  refine ⟨p, c1, c2, rfl, vb, none, h1.below a2, ⟨?_, a1.mp, a1.mq, a1.nv, a1.n1, by have := a1.hb; omega⟩, h2.call a2, fun k hk hp => ?_⟩
  · obtain ⟨v, b1, b2, b3⟩ := a1.box
    refine ⟨v, b1, ?_, b3⟩
    rcases b2 with b2 | ⟨g, off, cap, c1, c2, c3⟩
    · exact .inl b2
    · exact .inr ⟨g, off, cap, c1, by omega, c3⟩
  · have l1 := (h1.lt hk).2
    have l2 := (a1.lt hp).1
    omega

/-- few, of the queue laws. -/
def FewQIn (w : World) (n : Nat) (v3 v8 : Value) (wi : World) : Prop := ∃ (j : Nat) (x : Int), j ≤ n ∧ v8 = .int .i64 (j : Nat) ∧ x = intOf v3 ∧ v3 = .int .i64 x ∧ Ch (fun _ => False) w wi
set_option maxRecDepth 100000 in
set_option maxHeartbeats 4000000 in
theorem fewq_any (a : Option Addr) (cap : Nat) (log : List ByteArray) (w : World) (ro : RowAt w a 1 oS log) (hl : log.length ≤ 140737488351232) :
    Calls Try.prog 20 #[.slice a log.length cap] w fun e w' => (∃ b, e = .returned (.bool b) ∧ (b = true → log.length ≤ 24)) ∧ Below w.heap.size w w' := by
  have HRO := Lib.hid ro
  clear ro
  go_enter Try.func20, Try.ntmps20
  go_wp2_with fail
  go_loopw [3, 8] (fun v3 v8 wi => FewQIn w log.length v3 v8 wi) (fun _ i _ => log.length - (intOf i).toNat)
  case atStart => exact ⟨0, 0, Nat.zero_le _, rfl, rfl, rfl, Ch.refl _ _⟩
  case round =>
    obtain ⟨j, x, hj, rfl, hx, rfl, C5⟩ := hrel
    have KC := Lib.hid C5
    clear C5 hx
    by_cases hlt : j < log.length
    · have ht : decide ((j : Int) < (log.length : Int)) = true := by simpa using hlt
      have ht2 : decide (log.length ≤ j) = false := by simpa using hlt
      obtain ⟨d, hp⟩ : ∃ d, log[j]? = some d := ⟨_, List.getElem?_eq_getElem hlt⟩
      obtain ⟨b0, off, rfl, hb0, hcells⟩ := HRO.out j d hp
      have q0 : wr.cell? ⟨b0, off + j, none⟩ = some (.string d) := by
        have := (KC.out.below.cell (p := ⟨b0, _, none⟩) hb0).trans (hcells 0 _ rfl)
        simpa using this
      clear hcells
      go_wp2_with fail
      go_roundw
      case rel => exact ⟨j + 1, _, hlt, by simp, rfl, rfl, KC.out⟩
      case measure => simp only [intOf]; omega
    · have ht : decide ((j : Int) < (log.length : Int)) = false := by simpa using hlt
      have ht2 : decide (log.length ≤ j) = true := by simp; omega
      by_cases h1 : (log.length : Int) ≤ 24
      · have t1 : decide ((log.length : Int) ≤ 24) = true := by simpa using h1
        have H1 := Lib.hid (show log.length ≤ 24 by omega)
        clear h1
        go_wp2_with fail
        go_ret
        exact ⟨⟨_, rfl, fun _ => H1.out⟩, KC.out.below⟩
      · have t1 : decide ((log.length : Int) ≤ 24) = false := by simpa using h1
        clear h1
        go_wp2_with fail
        go_ret
        exact ⟨⟨_, rfl, fun h => by simp at h⟩, KC.out.below⟩
end Go.Proofs.Ythknfikjanoflaa
