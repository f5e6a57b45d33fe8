/- The reference's Counts of queue. -/
import Derived.Test.YthknfikjanoflaaRQP
import Derived.Test.YthknfikjanoflaaQT
set_option linter.unusedVariables false
set_option linter.unusedSimpArgs false
namespace Go.Proofs.Ythknfikjanoflaa
open Go.RowKit

def PE (d : ByteArray) : Option Ev := parseQ (sB d)
/-- Are two events the same one's? -/
def sameE (e f : Ev) : Bool := f.push == e.push && f.id == e.id
def sameO (e : Ev) (o : Option Ev) : Bool := match o with
  | some f => sameE e f
  | none => false
/-- Does an event count behind a log? -/
def newE (log : List ByteArray) (e : Ev) : Bool := !(log.any fun x => sameO e (PE x))
/-- Does a log's data count? -/
def countsF (log : List ByteArray) (i : Nat) : Bool := match log[i]? with
  | some d => match PE d with
    | some e => newE (log.take i) e
    | none => false
  | none => false

theorem peV (d : ByteArray) : parseQV (sB d) = match PE d with
  | some e => .tuple #[evV e, .bool true]
  | none => .tuple #[.agg #[.bool false, .int .i64 0, .string ⟨#[]⟩], .bool false] := rfl

/-- Counts' loop: none of the first k is the same one's. -/
def CntIn (w0 : World) (log : List ByteArray) (i : Nat) (e : Ev) (be : Nat) (v : Value) (wi : World) : Prop :=
  ∃ k : Nat, k ≤ i ∧ v = .int .i64 (k : Int) ∧ newE (log.take k) e = true ∧ Ch (fun _ => False) w0 wi ∧ Blk wi be #[.bool e.push, .int .i64 (e.id : Nat), .string e.item] 27

set_option maxRecDepth 100000 in
set_option maxHeartbeats 8000000 in
theorem counts_any (a : Option Addr) (cap : Nat) (log : List ByteArray) (i : Nat) (w : World) (ro : RowAt w a 1 oS log) (hd : ∀ d ∈ log, d.size ≤ 140737488351232) (hi : i < log.length) (hl : log.length ≤ 140737488351232) :
    Calls Try.prog 22 #[.slice a log.length cap, .int .i64 (i : Int)] w fun e w' => e = .returned (.bool (countsF log i)) ∧ Below w.heap.size w w' := by
  obtain ⟨d, hp⟩ : ∃ d, log[i]? = some d := ⟨_, List.getElem?_eq_getElem hi⟩
  obtain ⟨b0, off, rfl, hb0, hcells⟩ := ro i d hp
  have q0 : w.cell? ⟨b0, off + i, none⟩ = some (.string d) := by simpa using hcells 0 _ rfl
  have HRO := Lib.hid ro
  have HD := Lib.hid hd
  have hti : decide (log.length ≤ i) = false := by simpa using hi
  have HP := rparse_any d w (hd d (List.mem_of_getElem? hp))
  rw [peV] at HP
  have hcf : countsF log i = match PE d with | some e => newE (log.take i) e | none => false := by unfold countsF; rw [hp]
  rw [hcf]
  cases hpe : PE d with
  | none =>
    rw [hpe] at HP
    have HP := Lib.hid HP
    clear ro hd hp hcells hcf hpe
    go_enter Try.func22, Try.ntmps22
    go_wp2_with fail
    refine HP.out.mono ?_
    rintro e w1 ⟨rfl, hb1⟩
    go_wp2_with fail
    go_ret
    exact ⟨rfl, Ch.below (by have := Ch.of_below (fun _ => False) hb1; (repeat (first | with_reducible assumption | with_reducible exact Ch.refl _ _ | with_reducible refine Ch.drew ?_ | with_reducible refine Ch.alloc ?_ _ | (with_reducible refine Ch.set' ?_ ?_; focus (first | (right; rfl; done) | (left; simp; done) | (left; simp; omega) | (left; omega) | (right; simp; done) | (right; simp; omega))))))⟩
  | some e =>
    rw [hpe] at HP
    obtain ⟨ep, eid, eit⟩ := e
    have HP := Lib.hid (show Calls _ _ _ w fun x w' => x = .returned (.tuple #[.agg #[.bool ep, .int .i64 (eid : Nat), .string eit], .bool true]) ∧ Below w.heap.size w w' from HP)
    simp only
    obtain ⟨rr, hrr⟩ : ∃ r, newE (log.take i) ⟨ep, eid, eit⟩ = r := ⟨_, rfl⟩
    rw [hrr]
    have HR := Lib.hid hrr
    clear ro hd hp hcells hcf hpe hrr
    go_enter Try.func22, Try.ntmps22
    go_wp2_with fail
    refine HP.out.mono ?_
    rintro e w1 ⟨rfl, hb1⟩
    have K1 := Lib.hid ((Ch.of_below (fun _ => False) hb1).alloc (.cells #[.bool ep, .int .i64 (eid : Nat), .string eit] 27))
    have V1 := Lib.hid (Blk.new w1 #[.bool ep, .int .i64 (eid : Nat), .string eit] 27)
    clear HP hb1 q0
    go_wp2_with fail
    go_loopw [7] (fun v wi => CntIn w log i ⟨ep, eid, eit⟩ w1.heap.size v wi) (fun v _ => i - (intOf v).toNat)
    case atStart => exact ⟨0, Nat.zero_le _, rfl, rfl, K1.out, V1.out⟩
    case round =>
      obtain ⟨k, hk, rfl, hnew, C2, V2⟩ := hrel
      have KC := Lib.hid C2
      have KV := Lib.hid V2
      have KN := Lib.hid hnew
      clear hnew C2 V2 K1 V1
      by_cases hlt : k < i
      · have ht : decide ((k : Int) < (i : Int)) = true := by simpa using hlt
        have hkl : k < log.length := by omega
        have ht2 : decide (log.length ≤ k) = false := by simpa using hkl
        obtain ⟨x, hx⟩ : ∃ x, log[k]? = some x := ⟨_, List.getElem?_eq_getElem hkl⟩
        obtain ⟨b1, off1, e1, hb1, hcells⟩ := HRO.out k x hx
        cases e1
        have q0 : wr.cell? ⟨b0, off + k, none⟩ = some (.string x) := by
          have := (KC.out.below.cell (p := ⟨b0, _, none⟩) hb1).trans (hcells 0 _ rfl)
          simpa using this
        have HPX := rparse_any x wr (HD.out x (List.mem_of_getElem? hx))
        rw [peV] at HPX
        have hk1 : wrap64 ((k : Int) + 1) = (k : Int) + 1 := IntWalk.wrap64_in _ (by omega)
        have HTK := Lib.hid (show log.take (k + 1) = log.take k ++ [x] by rw [List.take_add_one, hx]; rfl)
        cases hpx : PE x with
        | none =>
          rw [hpx] at HPX
          have HPX := Lib.hid HPX
          have hn2 : newE (log.take (k + 1)) ⟨ep, eid, eit⟩ = true := by
            rw [HTK.out]
            have := KN.out
            unfold newE at this ⊢
            rw [List.any_append]
            simp only [Bool.not_eq_true'] at this ⊢
            rw [this]
            simp [sameO, hpx]
          have KN2 := Lib.hid hn2
          clear hpx hx hcells hn2
          go_wp2_with fail
          refine HPX.out.mono ?_
          rintro e w3 ⟨rfl, hb3⟩
          have KC3 := Lib.hid (KC.out.call hb3)
          have KV3 := Lib.hid (KV.out.below hb3)
          clear HPX hb3 KC KV
          have KC4 := Lib.hid (KC3.out.alloc (.cells #[.bool false, .int .i64 0, .string ⟨#[]⟩] 27))
          have KV4 := Lib.hid (KV3.out.alloc (.cells #[.bool false, .int .i64 0, .string ⟨#[]⟩] 27))
          clear KC3 KV3
          go_wp2_with fail
          go_roundw
          case rel => exact ⟨k + 1, hlt, by simp, KN2.out, KC4.out, KV4.out⟩
          case measure => simp only [intOf]; omega
        | some f =>
          rw [hpx] at HPX
          obtain ⟨fp, fid, fit⟩ := f
          have HPX := Lib.hid (show Calls _ _ _ wr fun x w' => x = .returned (.tuple #[.agg #[.bool fp, .int .i64 (fid : Nat), .string fit], .bool true]) ∧ Below wr.heap.size wr w' from HPX)
          by_cases hs : fp = ep ∧ fid = eid
          · have hn2 : newE (log.take i) ⟨ep, eid, eit⟩ = false := by
              unfold newE
              simp only [Bool.not_eq_false']
              rw [List.any_eq_true]
              refine ⟨x, List.mem_take_iff_getElem.2 ⟨k, by omega, (List.getElem?_eq_some_iff.1 hx).2⟩, ?_⟩
              rw [hpx]
              simp [sameO, sameE, hs.1, hs.2]
            have hrf := HR.out.symm.trans hn2
            subst hrf
            obtain ⟨rfl, rfl⟩ := hs
            clear hpx hx hcells hn2 HR
            go_wp2_with fail
            refine HPX.out.mono ?_
            rintro e w3 ⟨rfl, hb3⟩
            have KC4 := Lib.hid ((KC.out.call hb3).alloc (.cells #[.bool fp, .int .i64 (fid : Nat), .string fit] 27))
            have KV4 := Lib.hid ((KV.out.below hb3).alloc (.cells #[.bool fp, .int .i64 (fid : Nat), .string fit] 27))
            obtain ⟨z1, z2⟩ := KV4.out.cells
            obtain ⟨z3, z4⟩ := (Blk.new w3 #[.bool fp, .int .i64 (fid : Nat), .string fit] 27).cells
            have hlv := (KV.out.below hb3).lt
            clear HPX hb3 KC KV
            go_wp2_with fail
            go_ret
            exact ⟨rfl, KC4.out.below⟩
          · have hn2 : newE (log.take (k + 1)) ⟨ep, eid, eit⟩ = true := by
              rw [HTK.out]
              have := KN.out
              unfold newE at this ⊢
              rw [List.any_append]
              simp only [Bool.not_eq_true'] at this ⊢
              rw [this]
              simp only [sameO, hpx, sameE, List.any_cons, List.any_nil, Bool.or_false, Bool.false_or, Bool.and_eq_false_iff, beq_eq_false_iff_ne]
              by_cases h1 : fp = ep
              · exact .inr (fun h2 => hs ⟨h1, h2⟩)
              · exact .inl h1
            have KN2 := Lib.hid hn2
            clear hpx hx hcells hn2
            by_cases h1 : fp = ep
            · have h2 : ¬ fid = eid := fun h2 => hs ⟨h1, h2⟩
              have h3 : ((fid : Int) == (eid : Int)) = false := by
                have h5 : (fid : Int) ≠ (eid : Int) := by omega
                simpa using h5
              have h4 : (fid == eid) = false := by simpa using h2
              subst h1
              clear hs h2
              go_wp2_with fail
              refine HPX.out.mono ?_
              rintro e w3 ⟨rfl, hb3⟩
              have KC4 := Lib.hid ((KC.out.call hb3).alloc (.cells #[.bool fp, .int .i64 (fid : Nat), .string fit] 27))
              have KV4 := Lib.hid ((KV.out.below hb3).alloc (.cells #[.bool fp, .int .i64 (fid : Nat), .string fit] 27))
              obtain ⟨z1, z2⟩ := KV4.out.cells
              obtain ⟨z3, z4⟩ := (Blk.new w3 #[.bool fp, .int .i64 (fid : Nat), .string fit] 27).cells
              have hlv := (KV.out.below hb3).lt
              clear HPX hb3 KC KV
              go_wp2_with fail
              go_roundw
              case rel => exact ⟨k + 1, hlt, by simp, KN2.out, KC4.out, KV4.out⟩
              case measure => simp only [intOf]; omega
            · have h3 : (fp == ep) = false := by simpa using h1
              clear hs h1
              go_wp2_with fail
              refine HPX.out.mono ?_
              rintro e w3 ⟨rfl, hb3⟩
              have KC4 := Lib.hid ((KC.out.call hb3).alloc (.cells #[.bool fp, .int .i64 (fid : Nat), .string fit] 27))
              have KV4 := Lib.hid ((KV.out.below hb3).alloc (.cells #[.bool fp, .int .i64 (fid : Nat), .string fit] 27))
              obtain ⟨z1, z2⟩ := KV4.out.cells
              obtain ⟨z3, z4⟩ := (Blk.new w3 #[.bool fp, .int .i64 (fid : Nat), .string fit] 27).cells
              have hlv := (KV.out.below hb3).lt
              clear HPX hb3 KC KV
              go_wp2_with fail
              go_roundw
              case rel => exact ⟨k + 1, hlt, by simp, KN2.out, KC4.out, KV4.out⟩
              case measure => simp only [intOf]; omega
      · have ht : decide ((k : Int) < (i : Int)) = false := by simpa using hlt
        have ht2 : decide (k < i) = false := by simpa using hlt
        have hrt : true = rr := by
          have := KN.out
          rw [show k = i by omega, HR.out] at this
          exact this.symm
        subst hrt
        clear hlt
        go_wp2_with fail
        go_ret
        exact ⟨rfl, KC.out.below⟩
end Go.Proofs.Ythknfikjanoflaa
