/- queue's Add. -/
import Derived.Test.YthknfikjanoflaaQB
set_option linter.unusedVariables false
set_option linter.unusedSimpArgs false
namespace Go.Proofs.Ythknfikjanoflaa
open Go.RowKit

theorem Qu.many {w : World} {q b1 b2 : Nat} {vb : Option Nat} {base : Nat} {st : QSt} {v : Value} (h : Qu w q b1 b2 vb base st) (hb : Blk w q #[.int .i64 (st.many : Nat), v, .map (some b1), .map (some b2)] 72) (m : Nat) :
    Qu (w.setCell ⟨q, 0, none⟩ (.int .i64 (m : Nat))) q b1 b2 vb base { st with many := m } := by
  obtain ⟨v2, h1, h2, h3⟩ := h.box
  have hvv : v2 = v := by
    have e1 : w.heap[q]? = _ := h1
    rw [show w.heap[q]? = _ from hb] at e1
    simp at e1
    exact e1.symm
  subst hvv
  have nv := h.nv
  have n1 := h.n1
  have hs : Ch (· = q) w (w.setCell ⟨q, 0, none⟩ (.int .i64 (m : Nat))) := Ch.set (S := (· = q)) (p := ⟨q, 0, none⟩) (Ch.refl _ w) (.inr rfl) _
  refine ⟨⟨v2, ?_, h2.ch hs (fun g e => by rw [h3] at e; intro e2; exact nv.1 (by rw [e, e2])), h3⟩, h.mp.ch hs (fun e => n1.1 e.symm), h.mq.ch hs (fun e => n1.2.1 e.symm), nv, n1, h.hb⟩
  have := h1.set 0 (.int .i64 (m : Nat))
  simpa using this

set_option maxRecDepth 100000 in
set_option maxHeartbeats 4000000 in
theorem add_any {q b1 b2 : Nat} {vb : Option Nat} {base : Nat} {st : QSt} (d : ByteArray) (w : World) (h : Qu w q b1 b2 vb base st) (hd : d.size ≤ 140737488351232) (hl : st.l.length ≤ 4194304) (hm : st.many < 4194304) (hbase : base ≤ w.heap.size) :
    Calls Try.prog 17 #[.pointer (some ⟨q, 0, none⟩), .string d] w (QPost q b1 b2 vb base (addQ st (sB d)) w) := by
  have HP := Lib.hid (qparse_any d w hd)
  have HQ := Lib.hid h
  obtain ⟨rr, hrr⟩ : ∃ r, addQ st (sB d) = r := ⟨_, rfl⟩
  rw [hrr]
  have hmw : wrap64 ((st.many : Int) + 1) = ((st.many + 1 : Nat) : Int) := by rw [IntWalk.wrap64_in _ (by omega)]; rfl
  have hmw2 : IntKind.i64.wrap ((st.many : Int) + 1) = ((st.many + 1 : Nat) : Int) := by rw [IntWalk.i64_in _ (by omega)]; rfl
  cases hp : parseQ (sB d) with
  | none =>
    have hv : parseQV (sB d) = .tuple #[.agg #[.bool false, .int .i64 0, .string ⟨#[]⟩], .bool false] := by unfold parseQV; rw [hp]
    have HR := Lib.hid (show ({ st with many := st.many + 1 }, false) = rr by rw [← hrr]; unfold addQ; rw [hp])
    rw [hv] at HP
    clear hv hp hrr h
    go_enter Try.func17, Try.ntmps17
    go_wp2_with fail
    refine HP.out.mono ?_
    rintro e w1 ⟨rfl, hb1⟩
    have HQ1 := Lib.hid (HQ.out.below hb1)
    have HC1 := Lib.hid (Ch.of_below (Qf q b1 b2 vb) hb1)
    obtain ⟨v, h1, h2, h3⟩ := HQ1.out.box
    obtain ⟨q1, q2⟩ := h1.cells
    have hql := h1.lt
    have HQ2 := Lib.hid ((show Qu (w1.setCell ⟨q, 0, none⟩ (.int .i64 ((st.many : Int) + 1))) q b1 b2 vb base { st with many := st.many + 1 } from HQ1.out.many h1 (st.many + 1)).below (below1 _ (.cells #[.bool false, .int .i64 0, .string ⟨#[]⟩] 29)))
    have HC2 := Lib.hid ((Ch.set (S := Qf q b1 b2 vb) (p := ⟨q, 0, none⟩) HC1.out (.inr (.inl rfl)) (.int .i64 ((st.many : Int) + 1))).alloc (.cells #[.bool false, .int .i64 0, .string ⟨#[]⟩] 29))
    have hne : ¬ (w1.heap.size = q) := by omega
    clear h1 h2 h3 hb1 HP HQ HQ1 HC1
    go_wp2_with fail
    exact bodyPost_ret (v := .bool false) (by simp [results, Try.results17, go_sem]) rfl (by rw [← HR.out]; exact ⟨vb, rfl, HQ2.out, fun g e => .inl e, HC2.out⟩)
  | some e =>
    have hv : parseQV (sB d) = .tuple #[.agg #[.bool e.push, .int .i64 (e.id : Nat), .string e.item], .bool true] := by unfold parseQV; rw [hp]; rfl
    have hr : rr = if e.push = true then pushQ { st with many := st.many + 1 } e else popQ { st with many := st.many + 1 } e := by rw [← hrr]; unfold addQ; rw [hp]
    rw [hv] at HP
    obtain ⟨ep, eid, eit⟩ := e
    simp only at hr HP
    have HR := Lib.hid hr
    clear hv hp hrr h hr
    cases ep with
    | true =>
      have HR2 := HR.out
      simp only [if_true] at HR2
      have HR2 := Lib.hid HR2
      go_enter Try.func17, Try.ntmps17
      go_wp2_with fail
      refine HP.out.mono ?_
      rintro e w1 ⟨rfl, hb1⟩
      have HQ1 := Lib.hid (HQ.out.below hb1)
      have HC1 := Lib.hid (Ch.of_below (Qf q b1 b2 vb) hb1)
      obtain ⟨v, h1, h2, h3⟩ := HQ1.out.box
      obtain ⟨q1, q2⟩ := h1.cells
      have hql := h1.lt
      have HQ2 := Lib.hid ((show Qu (w1.setCell ⟨q, 0, none⟩ (.int .i64 ((st.many : Int) + 1))) q b1 b2 vb base { st with many := st.many + 1 } from HQ1.out.many h1 (st.many + 1)).below (below1 _ (.cells #[.bool true, .int .i64 (eid : Nat), .string eit] 29)))
      have HC2 := Lib.hid ((Ch.set (S := Qf q b1 b2 vb) (p := ⟨q, 0, none⟩) HC1.out (.inr (.inl rfl)) (.int .i64 ((st.many : Int) + 1))).alloc (.cells #[.bool true, .int .i64 (eid : Nat), .string eit] 29))
      have hne : ¬ (w1.heap.size = q) := by omega
      clear h1 h2 h3 hb1 HP HQ HQ1 HC1
      have HBE := Lib.hid (Blk.new (w1.setCell ⟨q, 0, none⟩ (.int .i64 ((st.many : Int) + 1))) #[.bool true, .int .i64 (eid : Nat), .string eit] 29)
      rw [show (w1.setCell ⟨q, 0, none⟩ (.int .i64 ((st.many : Int) + 1))).heap.size = w1.heap.size by simp] at HBE
      obtain ⟨z1, z2⟩ := HBE.out.cells
      have HPU := pushed_any ⟨true, eid, eit⟩ _ HQ2.out hl ⟨by simp, by simp; omega⟩ (by have := HC2.out.size; omega)
      obtain ⟨b, hb⟩ : ∃ b, rr.2 = b := ⟨_, rfl⟩
      unfold QPost evV at HPU
      rw [← HR2.out, hb] at HPU
      simp only at HPU
      have HB := Lib.hid hb
      clear hb
      have HPU := Lib.hid HPU
      go_wp2_with fail
      refine HPU.out.mono ?_
      rintro e w3 ⟨vb', rfl, Q3, hv3, c3⟩
      have HQ3 := Lib.hid Q3
      have HV3 := Lib.hid hv3
      have HC3 := Lib.hid (HC2.out.trans c3)
      clear Q3 hv3 c3
      go_wp2_with fail
      exact bodyPost_ret (v := .bool b) (by simp [results, Try.results17, go_sem]) rfl ⟨vb', by rw [HB.out], HQ3.out, fun g e => by
        rcases HV3.out g e with h | h
        · exact .inl h
        · right
          have := HC2.out.size
          omega, HC3.out⟩
    | false =>
      have HR2 := HR.out
      simp only [if_neg (show ¬ (false = true) by decide)] at HR2
      have HR2 := Lib.hid HR2
      go_enter Try.func17, Try.ntmps17
      go_wp2_with fail
      refine HP.out.mono ?_
      rintro e w1 ⟨rfl, hb1⟩
      have HQ1 := Lib.hid (HQ.out.below hb1)
      have HC1 := Lib.hid (Ch.of_below (Qf q b1 b2 vb) hb1)
      obtain ⟨v, h1, h2, h3⟩ := HQ1.out.box
      obtain ⟨q1, q2⟩ := h1.cells
      have hql := h1.lt
      have HQ2 := Lib.hid ((show Qu (w1.setCell ⟨q, 0, none⟩ (.int .i64 ((st.many : Int) + 1))) q b1 b2 vb base { st with many := st.many + 1 } from HQ1.out.many h1 (st.many + 1)).below (below1 _ (.cells #[.bool false, .int .i64 (eid : Nat), .string eit] 29)))
      have HC2 := Lib.hid ((Ch.set (S := Qf q b1 b2 vb) (p := ⟨q, 0, none⟩) HC1.out (.inr (.inl rfl)) (.int .i64 ((st.many : Int) + 1))).alloc (.cells #[.bool false, .int .i64 (eid : Nat), .string eit] 29))
      have hne : ¬ (w1.heap.size = q) := by omega
      clear h1 h2 h3 hb1 HP HQ HQ1 HC1
      have HBE := Lib.hid (Blk.new (w1.setCell ⟨q, 0, none⟩ (.int .i64 ((st.many : Int) + 1))) #[.bool false, .int .i64 (eid : Nat), .string eit] 29)
      rw [show (w1.setCell ⟨q, 0, none⟩ (.int .i64 ((st.many : Int) + 1))).heap.size = w1.heap.size by simp] at HBE
      obtain ⟨z1, z2⟩ := HBE.out.cells
      have HPU := popped_any ⟨false, eid, eit⟩ _ HQ2.out (by have := HC2.out.size; omega)
      obtain ⟨b, hb⟩ : ∃ b, rr.2 = b := ⟨_, rfl⟩
      unfold QPost evV at HPU
      rw [← HR2.out, hb] at HPU
      simp only at HPU
      have HB := Lib.hid hb
      clear hb
      have HPU := Lib.hid HPU
      go_wp2_with fail
      refine HPU.out.mono ?_
      rintro e w3 ⟨vb', rfl, Q3, hv3, c3⟩
      have HQ3 := Lib.hid Q3
      have HV3 := Lib.hid hv3
      have HC3 := Lib.hid (HC2.out.trans c3)
      clear Q3 hv3 c3
      go_wp2_with fail
      exact bodyPost_ret (v := .bool b) (by simp [results, Try.results17, go_sem]) rfl ⟨vb', by rw [HB.out], HQ3.out, fun g e => by
        rcases HV3.out g e with h | h
        · exact .inl h
        · right
          have := HC2.out.size
          omega, HC3.out⟩
end Go.Proofs.Ythknfikjanoflaa
