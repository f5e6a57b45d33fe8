/- QueueTrims: the main walk. -/
import Derived.Test.YthknfikjanoflaaQRW
set_option linter.unusedVariables false
set_option linter.unusedSimpArgs false
namespace Go.Proofs.Ythknfikjanoflaa
open Go.RowKit

def Tr1 (w0 : World) (q b1 b2 p c1 c2 : Nat) (log : List ByteArray) (v : Value) (wi : World) : Prop := ∃ k : Nat, k ≤ log.length ∧ v = .int .i64 (k : Int) ∧ QQ w0 wi q b1 b2 p c1 c2 (runQ qst0 (log.take k)) qst0
def Tr2 (w0 : World) (q b1 b2 p c1 c2 : Nat) (log : List ByteArray) (n : Nat) (vf v : Value) (wi : World) : Prop :=
  ∃ (k : Nat) (fr : Bool), n + k ≤ log.length ∧ v = .int .i64 ((n + k : Nat) : Int) ∧ vf = .bool fr ∧ (fr = true → Free log n (n + k)) ∧ QQ w0 wi q b1 b2 p c1 c2 (runQ qst0 log) (runQ qst0 ((log.drop n).take k))
/-- Behind k pops both queues have the same items. -/
structure Pops (sq sp : QSt) (k : Nat) : Prop where
  l : sq.l.map (·.1) = sp.l.map (·.1)
  len : sq.l.length ≤ 24
  mq : sq.many ≤ 100 + k
  mp : sp.many ≤ 100 + k
  po : ∀ j : Nat, k ≤ j → j ≤ 100 → getA (1099511627776 - (j : Int)) sp.po = none
theorem popQ_of {st : QSt} {id : Nat} (h : id ≤ 1099511627776) : addQ st (sB (bS (popL id))) = popQ { st with many := st.many + 1 } ⟨false, id, ⟨#[]⟩⟩ := by
  unfold addQ
  rw [parse_bpop h]
  rfl
theorem pops_step {sq sp : QSt} {k id : Nat} (h : Pops sq sp k) (hk : k ≤ 20) (hid : (id : Int) = 1099511627776 - (k : Int)) {rq rp : QSt × Bool} (hq : addQ sq (sB (bS (popL id))) = rq) (hp : addQ sp (sB (bS (popL id))) = rp) :
    rp.2 = true ∧ (rq.2 = true → Pops rq.1 rp.1 (k + 1) ∧ ∃ (s : ByteArray) (o : Bool), gotV rq.1 (id : Int) = .tuple #[.string s, .bool o, .bool true] ∧ gotV rp.1 (id : Int) = .tuple #[.string s, .bool o, .bool true]) := by
  have hid2 : id ≤ 1099511627776 := by omega
  rw [popQ_of hid2] at hq hp
  have hpo := h.po k (Nat.le_refl _) (by omega)
  rw [← hid] at hpo
  have hl := h.l
  have hlen := h.len
  have hmq := h.mq
  have hmp := h.mp
  have hpo' : ∀ (c : ByteArray × Bool) (j : Nat), k + 1 ≤ j → j ≤ 100 → getA (1099511627776 - (j : Int)) (putA (id : Int) c sp.po) = none := by
    intro c j h1 h2
    rw [getA_put, if_neg (by omega)]
    exact h.po j (by omega) h2
  unfold popQ at hq hp
  simp only at hq hp
  rw [hpo] at hp
  simp only [Option.isSome_none, Bool.false_eq_true, if_false] at hp
  cases hlp : sp.l with
  | nil =>
    rw [hlp] at hp hl
    have hlq : sq.l = [] := by simpa using hl
    simp only at hp
    subst hp
    refine ⟨rfl, fun h2 => ?_⟩
    rw [hlq] at hq
    split at hq
    · subst hq
      cases h2
    · subst hq
      refine ⟨⟨by simp [hlq, hlp], by simp [hlq], by simp only; omega, by simp only; omega, hpo' _⟩, ⟨#[]⟩, false, ?_, ?_⟩
      · unfold gotV
        simp only
        rw [getA_put, if_pos rfl]
      · unfold gotV
        simp only
        rw [getA_put, if_pos rfl]
  | cons x l =>
    rw [hlp] at hp hl
    cases hlq : sq.l with
    | nil => rw [hlq] at hl; simp at hl
    | cons y l' =>
      rw [hlq] at hl hq hlen
      simp only [List.map_cons, List.cons.injEq, List.length_cons] at hl hlen
      simp only at hp hq
      subst hp
      refine ⟨rfl, fun h2 => ?_⟩
      split at hq
      · subst hq
        cases h2
      · subst hq
        refine ⟨⟨hl.2, by simp only; omega, by simp only; omega, by simp only; omega, hpo' _⟩, x.1, true, ?_, ?_⟩
        · unfold gotV
          simp only
          rw [getA_put, if_pos rfl, hl.1]
        · unfold gotV
          simp only
          rw [getA_put, if_pos rfl]
theorem Pops.plen {sq sp : QSt} {k : Nat} (h : Pops sq sp k) : sp.l.length ≤ 24 := by
  have := congrArg List.length h.l
  simp only [List.length_map] at this
  have := h.len
  omega
def Tr3 (w0 : World) (q b1 b2 p c1 c2 n : Nat) (v : Value) (wi : World) : Prop := ∃ (k : Nat) (sq sp : QSt), k ≤ n ∧ v = .int .i64 (k : Int) ∧ Pops sq sp k ∧ QQ w0 wi q b1 b2 p c1 c2 sq sp

theorem tr_val (n k : Nat) : Value.int .i64 ((n : Int) + (k : Int) + 1) = .int .i64 ((n + (k + 1) : Nat) : Int) := by
  congr 1
theorem free_ext {log : List ByteArray} {n k : Nat} {x : ByteArray} {e : Ev} (h : Free log n (n + k)) (hx : log[n + k]? = some x) (hp : PE x = some e) (hpu : e.push = true) (hc : countsF log (n + k) = true) : Free log n (n + (k + 1)) := by
  intro j h1 h2
  by_cases hj : j < n + k
  · exact h j h1 hj
  · obtain rfl : j = n + k := by omega
    refine ⟨x, e, hx, hp, hpu, ?_⟩
    unfold countsF at hc
    rw [hx] at hc
    simp only at hc
    rw [hp] at hc
    exact hc
theorem runQ_bound (log : List ByteArray) (h : log.length ≤ 24) : (runQ qst0 log).l.length ≤ 4194304 ∧ (runQ qst0 log).many < 4194304 := by
  have h1 := runQ_len log qst0
  have h2 : qst0.l.length = 0 := rfl
  have h3 : qst0.many = 0 := rfl
  rw [h2, h3] at h1
  exact ⟨by omega, by omega⟩
theorem trims_start {w0 w : World} {q b1 b2 p c1 c2 : Nat} {log : List ByteArray} {n : Nat} (h24 : log.length ≤ 24) (hn : n = leastF (runQ qst0 log)) (hf : Free log n log.length) (h : QQ w0 w q b1 b2 p c1 c2 (runQ qst0 log) (runQ qst0 (log.drop n))) :
    ∃ sq sp, Pops sq sp 0 ∧ QQ w0 w q b1 b2 p c1 c2 sq sp := by
  subst hn
  obtain ⟨h1, h2, h3⟩ := trims_law hf
  have b1 := runQ_len log qst0
  have b2 := runQ_len (log.drop (leastF (runQ qst0 log))) qst0
  have q1 : qst0.l.length = 0 := rfl
  have q2 : qst0.many = 0 := rfl
  rw [q1, q2] at b1 b2
  rw [List.length_drop] at b2
  exact ⟨_, _, ⟨h2.symm, by omega, by omega, by omega, fun j _ _ => by rw [h3]; rfl⟩, h⟩
theorem take_24 {log : List ByteArray} (k : Nat) (h : log.length ≤ 24) : (log.take k).length ≤ 24 := by rw [List.length_take]; omega
theorem drop_24 {log : List ByteArray} (n : Nat) (h : log.length ≤ 24) : (log.drop n).length ≤ 24 := by rw [List.length_drop]; omega

set_option maxRecDepth 100000 in
set_option maxHeartbeats 8000000 in
theorem trims_main (a : Option Addr) (cap : Nat) (log : List ByteArray) (m : Nat) (w : World) (ro : RowAt w a 1 oS log) (hd : ∀ d ∈ log, d.size ≤ 140737488351232) (hl : log.length ≤ 140737488351232) (hm : m ≤ 20) :
    Calls Try.prog 5 #[.slice a log.length cap, .int .i64 (m : Int)] w fun e w' => e = .returned (.bool true) ∧ Below w.heap.size w w' := by
  have t1 : decide ((m : Int) < 0) = false := by simp
  have t2 : decide (20 < (m : Int)) = false := by simp; omega
  have HN := Lib.hid (qnew_any w)
  have HN2 := Lib.hid (fun w' => qnew_any w')
  have HRO := Lib.hid ro
  have HD := Lib.hid hd
  have HF := Lib.hid (fun w' (hb : Below w.heap.size w w') => fewq_any a cap log w' (ro.below hb) hl)
  clear ro hd
  go_enter Try.func5, Try.ntmps5
  go_wp2_with fail
  refine HN.out.mono ?_
  intro e w1 hpost
  obtain ⟨q, b1, b2, rfl, Q1⟩ := qnew_in (Ch.refl _ w) hpost
  have K1 := Lib.hid Q1
  clear HN hpost Q1
  go_wp2_with fail
  refine (HN2.out w1).mono ?_
  intro e w2 hpost
  obtain ⟨p, c1, c2, rfl, Q2⟩ := qnew_two K1.out hpost
  have K2 := Lib.hid Q2
  clear HN2 hpost Q2 K1
  go_wp2_with fail
  refine (HF.out w2 K2.out.q.ch.below).mono ?_
  rintro e w3 ⟨⟨b, rfl, hfew⟩, hb3⟩
  have K3 := Lib.hid (K2.out.below hb3)
  clear HF hb3 K2
  cases b with
  | false =>
    go_wp2_with fail
    refine (alive_any _).mono ?_
    rintro e w7 ⟨rfl, hb7⟩
    go_wp2_with fail
    go_ret
    exact ⟨rfl, (K3.out.q.ch.call hb7).below⟩
  | true =>
    have h24 := hfew rfl
    clear hfew
    go_wp2_with fail
    go_loopw [58] (fun v wi => Tr1 w q b1 b2 p c1 c2 log v wi) (fun i _ => log.length - (intOf i).toNat)
    case atStart => exact ⟨0, Nat.zero_le _, rfl, K3.out⟩
    case round =>
      obtain ⟨k, hk, rfl, Q4⟩ := hrel
      have K4 := Lib.hid Q4
      clear Q4 K3
      by_cases hlt : k < log.length
      · have ht : decide ((k : Int) < (log.length : Int)) = true := by simpa using hlt
        have ht2 : decide (log.length ≤ k) = false := by simpa using hlt
        obtain ⟨d, hp⟩ : ∃ d, log[k]? = some d := ⟨_, List.getElem?_eq_getElem hlt⟩
        obtain ⟨b0, off, rfl, hb0, hcells⟩ := HRO.out k d hp
        have q0 : wr.cell? ⟨b0, off + k, none⟩ = some (.string d) := by
          have := (K4.out.q.ch.below.cell (p := ⟨b0, _, none⟩) hb0).trans (hcells 0 _ rfl)
          simpa using this
        have hzl := runQ_bound _ (take_24 k h24)
        have HT := Lib.hid (show log.take k ++ [d] = log.take (k + 1) by rw [List.take_add_one, hp]; rfl)
        have HAD := Lib.hid (K4.out.addq d (HD.out d (List.mem_of_getElem? hp)) hzl.1 hzl.2 rfl)
        clear hcells hp hzl
        go_wp2_with fail
        refine HAD.out.mono ?_
        rintro e w4 ⟨rfl, Q5⟩
        rw [← runQ_snoc, HT.out] at Q5
        have K5 := Lib.hid Q5
        clear Q5 HAD K4
        go_wp2_with fail
        go_roundw
        case rel => exact ⟨k + 1, hlt, by simp, K5.out⟩
        case measure => simp only [intOf]; omega
      · have ht : decide ((k : Int) < (log.length : Int)) = false := by simpa using hlt
        have ht2 : decide (k < log.length) = false := by simpa using hlt
        have K5 := K4.out
        rw [show k = log.length by omega, List.take_length] at K5
        have HLE := Lib.hid K5.q.least
        have K6 := Lib.hid K5
        have hnl := least_le log
        obtain ⟨n, hn⟩ : ∃ n, n = leastF (runQ qst0 log) := ⟨_, rfl⟩
        rw [← hn] at HLE hnl
        have HNN := Lib.hid hn
        have tn1 : decide (((n : Nat) : Int) < 0) = false := by simp
        have tn2 : decide ((log.length : Int) < (n : Int)) = false := by simp; omega
        have tn3 : decide (log.length < n) = false := by simp; omega
        clear K4 K5 hlt hk hn
        go_wp2_with fail
        refine HLE.out.mono ?_
        rintro e w5 ⟨rfl, hb5⟩
        have K7 := Lib.hid (K6.out.below hb5)
        clear HLE hb5 K6
        go_wp2_with fail
        go_loopw [10, 11] (fun vf v wi => Tr2 w q b1 b2 p c1 c2 log n vf v wi) (fun _ i _ => log.length - (intOf i).toNat)
        case atStart => exact ⟨0, true, by omega, by simp, rfl, fun _ j h1 h2 => by omega, K7.out⟩
        case round =>
          clear K7
          obtain ⟨k, fr, hnk, rfl, rfl, hfr, Q8⟩ := hrel
          have KFR := Lib.hid hfr
          have K7 := Lib.hid Q8
          clear Q8 hfr
          have hcast : ((n + k : Nat) : Int) = (n : Int) + (k : Int) := by simp
          by_cases hlt : n + k < log.length
          · have ht : decide ((n : Int) + (k : Int) < (log.length : Int)) = true := by simp; omega
            have ht0 : decide (n + k < log.length) = true := by simpa using hlt
            have ht2 : decide (log.length ≤ n + k) = false := by simpa using hlt
            obtain ⟨x, hp⟩ : ∃ x, log[n + k]? = some x := ⟨_, List.getElem?_eq_getElem hlt⟩
            obtain ⟨b0, off, rfl, hb0, hcells⟩ := HRO.out (n + k) x hp
            have q0b : ∀ w' : World, Below w.heap.size w w' → w'.cell? ⟨b0, off + (n + k), none⟩ = some (.string x) := fun w' hb => by
              have := (hb.cell (p := ⟨b0, _, none⟩) hb0).trans (hcells 0 _ rfl)
              simpa using this
            have HQB := Lib.hid q0b
            have q0 := q0b wr K7.out.q.ch.below
            have HMEM := Lib.hid (List.mem_of_getElem? hp)
            have HZL := Lib.hid (runQ_bound _ (take_24 k (drop_24 n h24)))
            have hk1 : wrap64 ((n : Int) + (k : Int) + 1) = (n : Int) + (k : Int) + 1 := IntWalk.wrap64_in _ (by omega)
            have HT := Lib.hid (show (log.drop n).take k ++ [x] = (log.drop n).take (k + 1) by
              rw [List.take_add_one, List.getElem?_drop, hp]
              rfl)
            have HPX := rparse_any x wr (HD.out x HMEM.out)
            rw [peV] at HPX
            have HGX := Lib.hid hp
            clear q0b hcells hp
            cases hpx : PE x with
            | none =>
              rw [hpx] at HPX
              have HPX := Lib.hid HPX
              clear hpx
              go_wp2_with fail
              refine HPX.out.mono ?_
              rintro e w6 ⟨rfl, hb6⟩
              have K8 := Lib.hid ((K7.out.below hb6).below (below1 w6 (.cells #[.bool false, .int .i64 0, .string ⟨#[]⟩] 27)))
              obtain ⟨z1, z2⟩ := (Blk.new w6 #[.bool false, .int .i64 0, .string ⟨#[]⟩] 27).cells
              have q1 := HQB.out w6 (K7.out.below hb6).q.ch.below
              have hb06 : b0 < w6.heap.size := Nat.lt_of_lt_of_le hb0 (K7.out.below hb6).q.ch.size
              clear hb6 HPX q0
              cases fr with
              | false =>
                have K9 := K8
                clear K8
                have KX := Lib.hid (K9.out.addp x (HD.out x HMEM.out) HZL.out.1 HZL.out.2 rfl)
                clear K9
                go_wp2_with fail
                refine KX.out.mono ?_
                rintro e w8 ⟨rfl, Q10⟩
                rw [← runQ_snoc, HT.out] at Q10
                have K10 := Lib.hid Q10
                clear Q10 KX
                go_wp2_with fail
                go_roundw
                case rel => exact ⟨k + 1, false, by omega, tr_val n k, rfl, (fun h => by cases h), K10.out⟩
                case measure => simp only [intOf]; omega
              | true =>
                have K9 := K8
                clear K8
                have KX := Lib.hid (K9.out.addp x (HD.out x HMEM.out) HZL.out.1 HZL.out.2 rfl)
                clear K9
                go_wp2_with fail
                refine KX.out.mono ?_
                rintro e w8 ⟨rfl, Q10⟩
                rw [← runQ_snoc, HT.out] at Q10
                have K10 := Lib.hid Q10
                clear Q10 KX
                go_wp2_with fail
                go_roundw
                case rel => exact ⟨k + 1, false, by omega, tr_val n k, rfl, (fun h => by cases h), K10.out⟩
                case measure => simp only [intOf]; omega
            | some ee =>
              rw [hpx] at HPX
              obtain ⟨ep, eid, eit⟩ := ee
              have HPX := Lib.hid (show Calls _ _ _ wr fun x w' => x = .returned (.tuple #[.agg #[.bool ep, .int .i64 (eid : Nat), .string eit], .bool true]) ∧ Below wr.heap.size wr w' from HPX)
              have HEX := Lib.hid hpx
              clear hpx
              cases ep with
              | false =>
                go_wp2_with fail
                refine HPX.out.mono ?_
                rintro e w6 ⟨rfl, hb6⟩
                have K8 := Lib.hid ((K7.out.below hb6).below (below1 w6 (.cells #[.bool false, .int .i64 (eid : Nat), .string eit] 27)))
                obtain ⟨z1, z2⟩ := (Blk.new w6 #[.bool false, .int .i64 (eid : Nat), .string eit] 27).cells
                have q1 := HQB.out w6 (K7.out.below hb6).q.ch.below
                have hb06 : b0 < w6.heap.size := Nat.lt_of_lt_of_le hb0 (K7.out.below hb6).q.ch.size
                clear hb6 HPX q0
                cases fr with
                | false =>
                  have K9 := K8
                  clear K8
                  have KX := Lib.hid (K9.out.addp x (HD.out x HMEM.out) HZL.out.1 HZL.out.2 rfl)
                  clear K9
                  go_wp2_with fail
                  refine KX.out.mono ?_
                  rintro e w8 ⟨rfl, Q10⟩
                  rw [← runQ_snoc, HT.out] at Q10
                  have K10 := Lib.hid Q10
                  clear Q10 KX
                  go_wp2_with fail
                  go_roundw
                  case rel => exact ⟨k + 1, false, by omega, tr_val n k, rfl, (fun h => by cases h), K10.out⟩
                  case measure => simp only [intOf]; omega
                | true =>
                  have K9 := K8
                  clear K8
                  have KX := Lib.hid (K9.out.addp x (HD.out x HMEM.out) HZL.out.1 HZL.out.2 rfl)
                  clear K9
                  go_wp2_with fail
                  refine KX.out.mono ?_
                  rintro e w8 ⟨rfl, Q10⟩
                  rw [← runQ_snoc, HT.out] at Q10
                  have K10 := Lib.hid Q10
                  clear Q10 KX
                  go_wp2_with fail
                  go_roundw
                  case rel => exact ⟨k + 1, false, by omega, tr_val n k, rfl, (fun h => by cases h), K10.out⟩
                  case measure => simp only [intOf]; omega
              | true =>
                go_wp2_with fail
                refine HPX.out.mono ?_
                rintro e w6 ⟨rfl, hb6⟩
                have K8 := Lib.hid ((K7.out.below hb6).below (below1 w6 (.cells #[.bool true, .int .i64 (eid : Nat), .string eit] 27)))
                obtain ⟨z1, z2⟩ := (Blk.new w6 #[.bool true, .int .i64 (eid : Nat), .string eit] 27).cells
                have q1 := HQB.out w6 (K7.out.below hb6).q.ch.below
                have hb06 : b0 < w6.heap.size := Nat.lt_of_lt_of_le hb0 (K7.out.below hb6).q.ch.size
                clear hb6 HPX q0
                cases fr with
                | false =>
                  have K9 := K8
                  clear K8
                  have KX := Lib.hid (K9.out.addp x (HD.out x HMEM.out) HZL.out.1 HZL.out.2 rfl)
                  clear K9
                  go_wp2_with fail
                  refine KX.out.mono ?_
                  rintro e w8 ⟨rfl, Q10⟩
                  rw [← runQ_snoc, HT.out] at Q10
                  have K10 := Lib.hid Q10
                  clear Q10 KX
                  go_wp2_with fail
                  go_roundw
                  case rel => exact ⟨k + 1, false, by omega, tr_val n k, rfl, (fun h => by cases h), K10.out⟩
                  case measure => simp only [intOf]; omega
                | true =>
                  have HCN := counts_any _ cap log (n + k) _ (HRO.out.below K8.out.q.ch.below) HD.out hlt hl
                  rw [hcast] at HCN
                  obtain ⟨cb, hcb⟩ : ∃ cb, countsF log (n + k) = cb := ⟨_, rfl⟩
                  rw [hcb] at HCN
                  have HCN := Lib.hid HCN
                  have HFX := Lib.hid (show cb = true → Free log n (n + (k + 1)) from fun h => free_ext (KFR.out rfl) HGX.out HEX.out rfl (hcb.trans h))
                  clear hcb
                  go_wp2_with fail
                  refine HCN.out.mono ?_
                  rintro e w7 ⟨rfl, hb7⟩
                  have K9 := Lib.hid (K8.out.below hb7)
                  have q2 := HQB.out w7 K9.out.q.ch.below
                  clear HCN hb7 K8 z1 z2 q1
                  have KX := Lib.hid (K9.out.addp x (HD.out x HMEM.out) HZL.out.1 HZL.out.2 rfl)
                  clear K9
                  go_wp2_with fail
                  refine KX.out.mono ?_
                  rintro e w8 ⟨rfl, Q10⟩
                  rw [← runQ_snoc, HT.out] at Q10
                  have K10 := Lib.hid Q10
                  clear Q10 KX
                  go_wp2_with fail
                  go_roundw
                  case rel => exact ⟨k + 1, cb, by omega, tr_val n k, rfl, HFX.out, K10.out⟩
                  case measure => simp only [intOf]; omega
          · have ht : decide ((n : Int) + (k : Int) < (log.length : Int)) = false := by simp; omega
            have ht0 : decide (n + k < log.length) = false := by simpa using hlt
            have hkk : n + k = log.length := by omega
            cases fr with
            | false =>
              go_wp2_with fail
              refine (alive_any _).mono ?_
              rintro e w7 ⟨rfl, hb7⟩
              go_wp2_with fail
              go_ret
              exact ⟨rfl, (K7.out.q.ch.call hb7).below⟩
            | true =>
              have HFR := KFR.out rfl
              rw [hkk] at HFR ⊢
              have K8 := K7.out
              rw [show (log.drop n).take k = log.drop n from List.take_of_length_le (by rw [List.length_drop]; omega)] at K8
              obtain ⟨sq, sp, HP3, K9⟩ := trims_start h24 HNN.out HFR K8
              have K10 := Lib.hid K9
              have KP := Lib.hid HP3
              clear K7 K8 K9 HP3 KFR HFR hkk hlt hcast
              go_wp2_with fail
              go_loopw [114] (fun v wi => Tr3 w q b1 b2 p c1 c2 m v wi) (fun i _ => m - (intOf i).toNat)
              case atStart => exact ⟨0, sq, sp, Nat.zero_le _, rfl, KP.out, K10.out⟩
              case round =>
                clear K10 KP sq sp
                obtain ⟨j, sq, sp, hj, rfl, P4, Q4⟩ := hrel
                have KP := Lib.hid P4
                have K11 := Lib.hid Q4
                clear P4 Q4
                by_cases hlt : j < m
                · have ht5 : decide ((j : Int) < (m : Int)) = true := by simpa using hlt
                  have ht6 : decide (m ≤ j) = false := by simpa using hlt
                  obtain ⟨id, hid⟩ : ∃ id : Nat, (id : Int) = 1099511627776 - (j : Int) := ⟨1099511627776 - j, by omega⟩
                  have hid2 : id ≤ 1099511627776 := by omega
                  have HID := Lib.hid hid
                  have hpop := pop_ok id wr hid2
                  rw [hid] at hpop
                  have HPOP := Lib.hid hpop
                  clear hpop
                  obtain ⟨d, hd⟩ : ∃ d, d = bS (popL id) := ⟨_, rfl⟩
                  have hz := popL_len id hid2
                  obtain ⟨⟨sq2, bq⟩, hq⟩ : ∃ r, addQ sq (sB (bS (popL id))) = r := ⟨_, rfl⟩
                  obtain ⟨⟨sp2, bp⟩, hp⟩ : ∃ r, addQ sp (sB (bS (popL id))) = r := ⟨_, rfl⟩
                  obtain ⟨hbp, hst⟩ := pops_step KP.out (by omega) hid hq hp
                  simp only at hbp hst
                  subst hbp
                  rw [← hd] at HPOP hz hq hp
                  have HZ := Lib.hid hz
                  have HQ5 := Lib.hid hq
                  have HP5 := Lib.hid hp
                  have HST := Lib.hid hst
                  clear hd hz hq hp hst hid hid2
                  go_wp2_with fail
                  refine HPOP.out.mono ?_
                  rintro e w6 ⟨rfl, hb6⟩
                  have HAQ := Lib.hid ((K11.out.below hb6).addq d HZ.out (Nat.le_trans KP.out.len (by decide)) (Nat.lt_of_le_of_lt KP.out.mq (by omega)) HQ5.out)
                  clear HPOP hb6 K11
                  go_wp2_with fail
                  refine HAQ.out.mono ?_
                  rintro e w7 ⟨rfl, Q7⟩
                  have HAP := Lib.hid (Q7.addp d HZ.out (Nat.le_trans KP.out.plen (by decide)) (Nat.lt_of_le_of_lt KP.out.mp (by omega)) HP5.out)
                  clear HAQ Q7
                  go_wp2_with fail
                  refine HAP.out.mono ?_
                  rintro e w8 ⟨rfl, Q8⟩
                  have K12 := Lib.hid Q8
                  clear HAP Q8
                  cases bq with
                  | false =>
                    go_wp2_with fail
                    refine (alive_any _).mono ?_
                    rintro e w9 ⟨rfl, hb9⟩
                    go_wp2_with fail
                    go_ret
                    exact ⟨rfl, (K12.out.q.ch.call hb9).below⟩
                  | true =>
                    obtain ⟨P6, sv, ov, hg1, hg2⟩ := HST.out rfl
                    have KP6 := Lib.hid P6
                    have HG1 := K12.out.q.got (id : Int)
                    rw [hg1, HID.out] at HG1
                    have HG1 := Lib.hid HG1
                    have HG2 := Lib.hid hg2
                    clear P6 hg1 hg2 HST
                    go_wp2_with fail
                    refine HG1.out.mono ?_
                    rintro e w9 ⟨rfl, hb9⟩
                    have K13 := Lib.hid (K12.out.below hb9)
                    have HG3 := K13.out.p.got (id : Int)
                    rw [HG2.out, HID.out] at HG3
                    have HG3 := Lib.hid HG3
                    clear HG1 hb9 K12 HG2
                    go_wp2_with fail
                    refine HG3.out.mono ?_
                    rintro e w10 ⟨rfl, hb10⟩
                    have K14 := Lib.hid (K13.out.below hb10)
                    clear HG3 hb10 K13
                    go_wp2_with fail
                    go_roundw
                    case rel => exact ⟨j + 1, sq2, sp2, hlt, by simp, KP6.out, K14.out⟩
                    case measure => simp only [intOf]; omega
                · have ht5 : decide ((j : Int) < (m : Int)) = false := by simpa using hlt
                  have ht6 : decide (j < m) = false := by simpa using hlt
                  have HI1 := Lib.hid (K11.out.q.items (Nat.le_trans KP.out.len (by decide)))
                  go_wp2_with fail
                  refine HI1.out.mono ?_
                  rintro e w6 ⟨v6, rfl, R6, hb6⟩
                  have K12 := Lib.hid (K11.out.below hb6)
                  have KR6 := Lib.hid R6
                  obtain ⟨a6, cap6, rfl, _⟩ := R6.slice
                  clear R6 HI1 hb6 K11
                  have HI2 := Lib.hid (K12.out.p.items (Nat.le_trans KP.out.plen (by decide)))
                  go_wp2_with fail
                  refine HI2.out.mono ?_
                  rintro e w7 ⟨v7, rfl, R7, hb7⟩
                  have K13 := Lib.hid (K12.out.q.ch.call hb7)
                  have KR7 := Lib.hid (KR6.out.ch (Ch.of_below (fun _ => False) hb7) (fun _ _ => id))
                  have heq : itemsF sp = itemsF sq := KP.out.l.symm
                  rw [heq] at R7
                  have KR8 := Lib.hid R7
                  obtain ⟨a7, cap7, rfl, _⟩ := R7.slice
                  have hxl : (itemsF sq).length ≤ 24 := by
                    have := KP.out.len
                    unfold itemsF
                    rw [List.length_map]
                    exact this
                  obtain ⟨xs, hxs⟩ : ∃ xs, xs = itemsF sq := ⟨_, rfl⟩
                  rw [← hxs] at KR7 KR8 hxl ⊢
                  obtain ⟨B1, hB1⟩ : ∃ B, B = wr.heap.size := ⟨_, rfl⟩
                  obtain ⟨B2, hB2⟩ : ∃ B, B = w6.heap.size := ⟨_, rfl⟩
                  rw [← hB1] at KR7
                  rw [← hB2] at KR8
                  clear R7 HI2 hb7 K12 KR6 heq hxs hB1 hB2 KP
                  go_wp2_with fail
                  go_loopw [167] (fun v wi => TwIn3 w xs.length B1 B2 (.slice a6 xs.length cap6) (.slice a7 xs.length cap7) xs v wi) (fun i _ => xs.length - (intOf i).toNat)
                  case atStart => exact ⟨0, Nat.zero_le _, rfl, KR7.out, KR8.out, K13.out⟩
                  case round =>
                    obtain ⟨i, hi, rfl, RA, RB, CC⟩ := hrel
                    have KA := Lib.hid RA
                    have KB := Lib.hid RB
                    have KC := Lib.hid CC
                    clear RA RB CC KR7 KR8 K13
                    by_cases hlt : i < xs.length
                    · have ht7 : decide ((i : Int) < (xs.length : Int)) = true := by simpa using hlt
                      have ht8 : decide (xs.length ≤ i) = false := by simpa using hlt
                      obtain ⟨x, hx⟩ : ∃ x, xs[i]? = some x := ⟨_, List.getElem?_eq_getElem hlt⟩
                      obtain ⟨g1, cc1, e1, hc1⟩ := KA.out.at hx
                      obtain ⟨g2, cc2, e2, hc2⟩ := KB.out.at hx
                      cases e1
                      cases e2
                      have hc1b := fun x : Later wr => (x.h.cell (p := ⟨g1, i, none⟩) (cell_spot hc1).2).trans hc1
                      have hc2b := fun x : Later wr => (x.h.cell (p := ⟨g2, i, none⟩) (cell_spot hc2).2).trans hc2
                      clear hx hc1 hc2
                      go_wp2_with fail
                      refine wp_region_later (by kernel_rfl) (by kernel_rfl) ?_
                      repeat (go_big_quiet_step (fail))
                      refine wpQuiet_nil ?_
                      rintro _ ⟨y, rfl⟩
                      have KA2 := Lib.hid (KA.out.ch (Ch.of_below (fun _ => False) y.h) (fun _ _ => id))
                      have KB2 := Lib.hid (KB.out.ch (Ch.of_below (fun _ => False) y.h) (fun _ _ => id))
                      have KC2 := Lib.hid (KC.out.call y.h)
                      clear KA KB KC hc1b hc2b
                      go_wp2_with fail
                      go_roundw
                      case rel => exact ⟨i + 1, hlt, by simp, KA2.out, KB2.out, KC2.out⟩
                      case measure => simp only [intOf]; omega
                    · have ht7 : decide ((i : Int) < (xs.length : Int)) = false := by simpa using hlt
                      have ht8 : decide (i < xs.length) = false := by simpa using hlt
                      go_wp2_with fail
                      refine (alive_any _).mono ?_
                      rintro e w9 ⟨rfl, hb9⟩
                      go_wp2_with fail
                      go_ret
                      exact ⟨rfl, (KC.out.call hb9).below⟩
end Go.Proofs.Ythknfikjanoflaa
