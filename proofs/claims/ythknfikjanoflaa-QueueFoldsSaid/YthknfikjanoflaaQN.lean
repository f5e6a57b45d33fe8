/- QueueNone: the walk. -/
import Derived.Test.YthknfikjanoflaaQAll
set_option linter.unusedVariables false
set_option linter.unusedSimpArgs false
namespace Go.Proofs.Ythknfikjanoflaa
open Go.RowKit

theorem putA_new {α β : Type} [DecidableEq α] {a : α} {c : β} : ∀ {l : List (α × β)}, getA a l = none → putA a c l = l ++ [(a, c)]
  | [], _ => rfl
  | p :: l, h => by
    unfold getA at h
    split at h
    · cases h
    · rename_i hp
      rw [putA, if_neg hp, putA_new h]
      rfl
/-- A table of the first k numbers. -/
def tab {β : Type} (f : Nat → β) (k : Nat) : List (Int × β) := (List.range k).map fun i : Nat => ((i : Int), f i)
theorem tab_succ {β : Type} (f : Nat → β) (k : Nat) : tab f (k + 1) = tab f k ++ [((k : Int), f k)] := by
  unfold tab
  rw [List.range_succ, List.map_append]
  rfl
theorem getA_app {α β : Type} [DecidableEq α] {a : α} {l2 : List (α × β)} : ∀ {l : List (α × β)}, getA a (l ++ l2) = match getA a l with | some c => some c | none => getA a l2
  | [] => rfl
  | p :: l => by
    simp only [List.cons_append, getA]
    split
    · rfl
    · exact getA_app
theorem tab_get {β : Type} (f : Nat → β) : ∀ (k j : Nat), getA (j : Int) (tab f k) = if j < k then some (f j) else none
  | 0, j => by simp [tab, getA]
  | k + 1, j => by
    rw [tab_succ, getA_app, tab_get f k j]
    by_cases h : j < k
    · rw [if_pos h, if_pos (by omega)]
    · rw [if_neg h]
      simp only [getA]
      by_cases h2 : (k : Int) = (j : Int)
      · rw [if_pos h2, if_pos (by omega)]
        have : k = j := by omega
        rw [this]
      · rw [if_neg h2, if_neg (by omega)]
theorem tab_put {β : Type} (f : Nat → β) (k : Nat) : putA (k : Int) (f k) (tab f k) = tab f (k + 1) := by
  rw [putA_new (by rw [tab_get, if_neg (by omega)]), tab_succ]

def nameF (n : Nat) : ByteArray := bS [n % 256, n / 256]
set_option maxRecDepth 100000 in
theorem name_any (n : Nat) (w : World) (hn : n < 65536) : Calls Try.prog 16 #[.int .i64 (n : Int)] w fun e w' => e = .returned (.string (nameF n)) ∧ Below w.heap.size w w' := by
  have e1 : ((n : Int) / 256) % 256 = (n : Int) / 256 := by omega
  have hrow : BRow (w.alloc (.cells #[.int .u8 ((n : Int) % 256), .int .u8 ((n : Int) / 256)] 5)) w.heap.size (.slice (some ⟨w.heap.size, 0, none⟩) 2 2) [n % 256, n / 256] :=
    ⟨rfl, .inr ⟨w.heap.size, 2, #[.int .u8 ((n : Int) % 256), .int .u8 ((n : Int) / 256)], rfl, Nat.le_refl _, Blk.new w _ _, Nat.le_refl _, by simp [maxLen], rfl, rfl⟩⟩
  have hconv := brow_string hrow (by intro b hb; simp at hb; omega)
  have hnm : bS [n % 256, n / 256] = nameF n := rfl
  rw [hnm] at hconv
  clear hrow hnm
  go_enter Try.func16, Try.ntmps16
  go_wp2_with fail
  go_ret
  exact ⟨rfl, Ch.below (by (repeat (first | with_reducible assumption | with_reducible exact Ch.refl _ _ | with_reducible refine Ch.drew ?_ | with_reducible refine Ch.alloc ?_ _ | (with_reducible refine Ch.set' ?_ ?_; focus (first | (right; rfl; done) | (left; simp; done) | (left; simp; omega) | (left; omega) | (right; simp; done) | (right; simp; omega))))))⟩
theorem nameF_size (n : Nat) : (nameF n).size = 2 := by unfold nameF; rw [bS_size]; rfl

theorem nameF_inj {m n : Nat} (hm : m < 65536) (hn : n < 65536) (h : nameF m = nameF n) : m = n := by
  unfold nameF at h
  have h1 := congrArg sB h
  rw [sB_bS (by intro b hb; simp at hb; omega), sB_bS (by intro b hb; simp at hb; omega)] at h1
  simp at h1
  omega

/-- Behind k pops of the empty queue; behind n pushes more. -/
def none1 (k : Nat) : QSt := ⟨k, [], [], tab (fun _ => ((⟨#[]⟩ : ByteArray), false)) k⟩
def none2 (k n : Nat) : QSt := ⟨k + n, (List.range n).map fun i => (nameF i, k + i), tab (fun _ => true) n, tab (fun _ => ((⟨#[]⟩ : ByteArray), false)) k⟩
theorem none1_add (k : Nat) (hk : k ≤ 1099511627776) : addQ (none1 k) (sB (bS (popL k))) = (none1 (k + 1), true) := by
  unfold addQ
  rw [parse_bpop hk]
  simp only [Bool.false_eq_true, if_false]
  unfold popQ none1
  simp only
  rw [tab_get _ k k, if_neg (Nat.lt_irrefl k)]
  simp only [Option.isSome_none, Bool.false_eq_true, if_false]
  rw [show putA (k : Int) ((⟨#[]⟩ : ByteArray), false) (tab (fun _ => ((⟨#[]⟩ : ByteArray), false)) k) = tab (fun _ => ((⟨#[]⟩ : ByteArray), false)) (k + 1) from tab_put (fun _ => ((⟨#[]⟩ : ByteArray), false)) k]
theorem none2_zero (k : Nat) : none2 k 0 = none1 k := rfl
theorem none2_add (k n : Nat) (hn : n ≤ 1099511627776) : addQ (none2 k n) (sB (bS (pushL n (nameF n)))) = (none2 k (n + 1), true) := by
  unfold addQ
  rw [parse_bpush hn (by rw [nameF_size]; decide)]
  simp only [if_true]
  unfold pushQ none2 hadF
  simp only
  rw [tab_get _ n n, if_neg (Nat.lt_irrefl n)]
  simp only [Option.getD_none, Bool.false_eq_true, if_false]
  rw [tab_put (fun _ => true) n, List.range_succ, List.map_append]
  rfl

theorem none2_got (k n i : Nat) (h : i < k) : gotV (none2 k n) (i : Int) = .tuple #[.string ⟨#[]⟩, .bool false, .bool true] := by
  unfold gotV none2
  simp only
  rw [tab_get _ k i, if_pos h]
theorem none2_items (k n : Nat) : itemsF (none2 k n) = (List.range n).map nameF := by
  unfold itemsF none2
  rw [List.map_map]
  rfl
theorem none2_least (k n : Nat) : leastF (none2 k n) = k := by
  unfold leastF none2
  cases n with
  | zero => rfl
  | succ n =>
    rw [List.range_succ_eq_map]
    rfl
/-- The loops of QueueNone. -/
def NonIn1 (w0 : World) (q b1 b2 p : Nat) (v : Value) (wi : World) : Prop := ∃ k : Nat, k ≤ p ∧ v = .int .i64 (k : Int) ∧ QIn w0 wi q b1 b2 (none1 k)
def NonIn2 (w0 : World) (q b1 b2 p n : Nat) (v : Value) (wi : World) : Prop := ∃ k : Nat, k ≤ n ∧ v = .int .i64 (k : Int) ∧ QIn w0 wi q b1 b2 (none2 p k)
def NonIn3 (w0 : World) (q b1 b2 p n : Nat) (v : Value) (wi : World) : Prop := ∃ k : Nat, k ≤ p ∧ v = .int .i64 (k : Int) ∧ QIn w0 wi q b1 b2 (none2 p n)

def NonIn4 (w0 : World) (q b1 b2 : Nat) (st : QSt) (B : Nat) (u : Value) (xs : List ByteArray) (n : Nat) (v : Value) (wi : World) : Prop := ∃ k : Nat, k ≤ n ∧ v = .int .i64 (k : Int) ∧ QIn w0 wi q b1 b2 st ∧ SRow wi B u xs

set_option maxRecDepth 100000 in
set_option maxHeartbeats 8000000 in
theorem none_main (p n : Nat) (w : World) (hp : p ≤ 100) (hn : n ≤ 100) :
    Calls Try.prog 6 #[.int .i64 (p : Int), .int .i64 (n : Int)] w fun e w' => e = .returned (.bool true) ∧ Below w.heap.size w w' := by
  have t1 : decide ((p : Int) < 0) = false := by simp
  have t2 : decide (100 < (p : Int)) = false := by simp; omega
  have t3 : decide ((n : Int) < 0) = false := by simp
  have t4 : decide (100 < (n : Int)) = false := by simp; omega
  have HN := Lib.hid (qnew_any w)
  go_enter Try.func6, Try.ntmps6
  go_wp2_with fail
  refine HN.out.mono ?_
  intro e w1 hpost
  obtain ⟨q, b1, b2, rfl, Q1⟩ := qnew_in (Ch.refl _ w) hpost
  have K1 := Lib.hid Q1
  clear HN hpost Q1
  go_wp2_with fail
  go_loopw [43] (fun v wi => NonIn1 w q b1 b2 p v wi) (fun i _ => p - (intOf i).toNat)
  case atStart => exact ⟨0, Nat.zero_le _, rfl, K1.out⟩
  case round =>
    obtain ⟨k, hk, rfl, Q2⟩ := hrel
    have K2 := Lib.hid Q2
    clear Q2 K1
    by_cases hlt : k < p
    · have ht : decide ((k : Int) < (p : Int)) = true := by simpa using hlt
      have ht2 : decide (p ≤ k) = false := by simpa using hlt
      have HP := Lib.hid (pop_ok k wr (by omega))
      obtain ⟨d, hd⟩ : ∃ d, d = bS (popL k) := ⟨_, rfl⟩
      have hz := popL_len k (by omega)
      have ha := none1_add k (by omega)
      rw [← hd] at HP hz ha
      have HZ := Lib.hid hz
      have HA := Lib.hid ha
      clear hd hz ha
      go_wp2_with fail
      refine HP.out.mono ?_
      rintro e w2 ⟨rfl, hb2⟩
      have HAD := Lib.hid ((K2.out.below hb2).add d HZ.out (by simp [none1]) (by simp [none1]; omega) HA.out)
      clear HP hb2 K2
      go_wp2_with fail
      refine HAD.out.mono ?_
      rintro e w3 ⟨rfl, Q3⟩
      have K3 := Lib.hid Q3
      clear Q3 HAD
      go_wp2_with fail
      go_roundw
      case rel => exact ⟨k + 1, hlt, by simp, K3.out⟩
      case measure => simp only [intOf]; omega
    · have ht : decide ((k : Int) < (p : Int)) = false := by simpa using hlt
      have ht2 : decide (p ≤ k) = true := by simp; omega
      obtain rfl : k = p := by omega
      have K3 := Lib.hid (show QIn w wr q b1 b2 (none2 k 0) from by rw [none2_zero]; exact K2.out)
      clear K2 hlt
      go_wp2_with fail
      go_loopw [57] (fun v wi => NonIn2 w q b1 b2 k n v wi) (fun i _ => n - (intOf i).toNat)
      case atStart => exact ⟨0, Nat.zero_le _, rfl, K3.out⟩
      case round =>
        obtain ⟨j, hj, rfl, Q2⟩ := hrel
        have K2 := Lib.hid Q2
        clear Q2 K3
        by_cases hlt : j < n
        · have ht : decide ((j : Int) < (n : Int)) = true := by simpa using hlt
          have ht2 : decide (n ≤ j) = false := by simpa using hlt
          have HM := Lib.hid (name_any j wr (by omega))
          have HP := Lib.hid (fun w' => push_ok j (nameF j) w' (by omega) (by rw [nameF_size]; decide))
          obtain ⟨d, hd⟩ : ∃ d, d = bS (pushL j (nameF j)) := ⟨_, rfl⟩
          have hz := pushL_len j (nameF j) (by omega) (by rw [nameF_size]; decide)
          have ha := none2_add k j (by omega)
          rw [← hd] at HP hz ha
          have HZ := Lib.hid hz
          have HA := Lib.hid ha
          clear hd hz ha
          go_wp2_with fail
          refine HM.out.mono ?_
          rintro e w2 ⟨rfl, hb2⟩
          go_wp2_with fail
          refine (HP.out w2).mono ?_
          rintro e w3 ⟨rfl, hb3⟩
          have HAD := Lib.hid (((K2.out.below hb2).below hb3).add d HZ.out (by simp [none2]; omega) (by simp [none2]; omega) HA.out)
          clear HP HM hb2 hb3 K2
          go_wp2_with fail
          refine HAD.out.mono ?_
          rintro e w4 ⟨rfl, Q4⟩
          have K4 := Lib.hid Q4
          clear Q4 HAD
          go_wp2_with fail
          go_roundw
          case rel => exact ⟨j + 1, hlt, by simp, K4.out⟩
          case measure => simp only [intOf]; omega
        · have ht : decide ((j : Int) < (n : Int)) = false := by simpa using hlt
          have ht2 : decide (n ≤ j) = true := by simp; omega
          obtain rfl : j = n := by omega
          clear hlt
          go_wp2_with fail
          go_loopw [73] (fun v wi => NonIn3 w q b1 b2 k j v wi) (fun i _ => k - (intOf i).toNat)
          case atStart => exact ⟨0, Nat.zero_le _, rfl, K2.out⟩
          case round =>
            obtain ⟨i, hi, rfl, Q2⟩ := hrel
            have K3 := Lib.hid Q2
            clear Q2 K2
            by_cases hlt : i < k
            · have ht : decide ((i : Int) < (k : Int)) = true := by simpa using hlt
              have ht2 : decide (k ≤ i) = false := by simpa using hlt
              have HG := K3.out.got (i : Int)
              rw [none2_got k j i hlt] at HG
              have HG := Lib.hid HG
              go_wp2_with fail
              refine HG.out.mono ?_
              rintro e w2 ⟨rfl, hb2⟩
              have K4 := Lib.hid (K3.out.below hb2)
              clear HG hb2 K3
              go_wp2_with fail
              go_roundw
              case rel => exact ⟨i + 1, hlt, by simp, K4.out⟩
              case measure => simp only [intOf]; omega
            · have ht : decide ((i : Int) < (k : Int)) = false := by simpa using hlt
              have ht2 : decide (k ≤ i) = true := by simp; omega
              have ht3 : decide (i < k) = false := by simpa using hlt
              have HI := Lib.hid (K3.out.items (by simp [none2]; omega))
              have HL := Lib.hid (fun w' (Q : QIn w w' q b1 b2 (none2 k j)) => Q.least)
              clear hlt hi
              go_wp2_with fail
              refine HI.out.mono ?_
              rintro e w5 ⟨v5, rfl, R5, hb5⟩
              rw [none2_items] at R5
              obtain ⟨xs, hxs⟩ : ∃ xs, xs = (List.range j).map nameF := ⟨_, rfl⟩
              rw [← hxs] at R5
              have hlen : xs.length = j := by rw [hxs]; simp
              have HX := Lib.hid (show ∀ m, m < j → xs[m]? = some (nameF m) from fun m hm => by rw [hxs]; simp [hm])
              clear hxs
              have K5 := Lib.hid (K3.out.below hb5)
              have KR5 := Lib.hid R5
              obtain ⟨a5, cap5, rfl, _⟩ := R5.slice
              clear R5 hb5 K3 HI
              obtain ⟨B, hB⟩ : ∃ B, B = wr.heap.size := ⟨_, rfl⟩
              rw [← hB] at KR5
              clear hB
              go_wp2_with fail
              go_loopw [97] (fun v wi => NonIn4 w q b1 b2 (none2 k j) B (.slice a5 xs.length cap5) xs j v wi) (fun i _ => j - (intOf i).toNat)
              case atStart => exact ⟨0, Nat.zero_le _, rfl, K5.out, KR5.out⟩
              case round =>
                obtain ⟨m, hm, rfl, Q6, R6⟩ := hrel
                have K6 := Lib.hid Q6
                have KR6 := Lib.hid R6
                clear Q6 R6 K5 KR5
                by_cases hlt : m < j
                · have ht3 : decide ((m : Int) < (j : Int)) = true := by simpa using hlt
                  have ht4 : decide (j ≤ m) = false := by simpa using hlt
                  have hmi := HX.out m hlt
                  obtain ⟨g6, cap6, e6, hc6⟩ := KR6.out.at hmi
                  have hc6b := fun x : Later wr => (x.h.cell (p := ⟨g6, m, none⟩) (cell_spot hc6).2).trans hc6
                  cases e6
                  have HM := Lib.hid (fun x : Later wr => name_any m x.w (by omega))
                  clear hmi hc6
                  go_wp2_with fail
                  refine wp_region_later (by kernel_rfl) (by kernel_rfl) ?_
                  repeat (go_big_quiet_step (first | (go_at_call 16; exact Calls.later (HM.out _))))
                  refine wpQuiet_nil ?_
                  rintro _ ⟨y, rfl⟩
                  have K7 := Lib.hid (K6.out.below y.h)
                  have KR7 := Lib.hid (KR6.out.ch (Ch.of_below (fun _ => False) y.h) (fun _ _ => id))
                  clear HM hc6b K6 KR6
                  go_wp2_with fail
                  go_roundw
                  case rel => exact ⟨m + 1, hlt, by simp, K7.out, KR7.out⟩
                  case measure => simp only [intOf]; omega
                · have ht3 : decide ((m : Int) < (j : Int)) = false := by simpa using hlt
                  have ht4 : decide (m < j) = false := by simpa using hlt
                  have hlj : (xs.length == j) = true := by simp [hlen]
                  go_wp2_with fail
                  refine (alive_any _).mono ?_
                  rintro e w7 ⟨rfl, hb7⟩
                  have K7 := Lib.hid (K6.out.below hb7)
                  clear K6 hb7
                  by_cases hj0 : j = 0
                  · have hls := K7.out.least
                    rw [none2_least] at hls
                    subst hj0
                    have HLS := Lib.hid hls
                    clear hls
                    go_wp2_with fail
                    refine HLS.out.mono ?_
                    rintro e w8 ⟨rfl, hb8⟩
                    go_wp2_with fail
                    go_ret
                    exact ⟨rfl, (K7.out.ch.call hb8).below⟩
                  · have hls := K7.out.least
                    rw [none2_least] at hls
                    have HLS := Lib.hid hls
                    have hkj : wrap64 ((k : Int) + (j : Int)) = (k : Int) + (j : Int) := IntWalk.wrap64_in _ (by omega)
                    have hkj2 : (k == k + j) = false := by simpa using hj0
                    have hkj3 : ((k : Int) == (k : Int) + (j : Int)) = false := by simp; omega
                    clear hls
                    have hj1 : (j == 0) = false := by simpa using hj0
                    have hj2 : ((j : Int) == 0) = false := by simpa using hj0
                    go_wp2_with fail
                    refine HLS.out.mono ?_
                    rintro e w8 ⟨rfl, hb8⟩
                    go_wp2_with fail
                    go_ret
                    exact ⟨rfl, (K7.out.ch.call hb8).below⟩

set_option maxRecDepth 100000 in
set_option maxHeartbeats 4000000 in
theorem none_bad (p n : Int) (w : World) (h : (p < 0) ∨ (0 ≤ p ∧ 100 < p) ∨ (0 ≤ p ∧ p ≤ 100 ∧ n < 0) ∨ (0 ≤ p ∧ p ≤ 100 ∧ 0 ≤ n ∧ 100 < n)) : Calls Try.prog 6 #[.int .i64 p, .int .i64 n] w fun e w' => e = .returned (.bool true) ∧ Below w.heap.size w w' := by
  rcases h with h | h | h | h
  · have t0 : decide (p < 0) = true := by simp; omega
    have HN := Lib.hid (qnew_any w)
    clear h
    go_enter Try.func6, Try.ntmps6
    go_wp2_with fail
    refine HN.out.mono ?_
    intro e w1 hpost
    obtain ⟨q, b1, b2, rfl, Q1⟩ := qnew_in (Ch.refl _ w) hpost
    have K1 := Lib.hid Q1
    clear HN hpost Q1
    go_wp2_with fail
    refine (alive_any _).mono ?_
    rintro e w7 ⟨rfl, hb7⟩
    go_wp2_with fail
    go_ret
    exact ⟨rfl, (K1.out.ch.call hb7).below⟩
  · have t0 : decide (p < 0) = false := by simp; omega
    have t1 : decide (100 < p) = true := by simp; omega
    have HN := Lib.hid (qnew_any w)
    clear h
    go_enter Try.func6, Try.ntmps6
    go_wp2_with fail
    refine HN.out.mono ?_
    intro e w1 hpost
    obtain ⟨q, b1, b2, rfl, Q1⟩ := qnew_in (Ch.refl _ w) hpost
    have K1 := Lib.hid Q1
    clear HN hpost Q1
    go_wp2_with fail
    refine (alive_any _).mono ?_
    rintro e w7 ⟨rfl, hb7⟩
    go_wp2_with fail
    go_ret
    exact ⟨rfl, (K1.out.ch.call hb7).below⟩
  · have t0 : decide (p < 0) = false := by simp; omega
    have t1 : decide (100 < p) = false := by simp; omega
    have t2 : decide (n < 0) = true := by simp; omega
    have HN := Lib.hid (qnew_any w)
    clear h
    go_enter Try.func6, Try.ntmps6
    go_wp2_with fail
    refine HN.out.mono ?_
    intro e w1 hpost
    obtain ⟨q, b1, b2, rfl, Q1⟩ := qnew_in (Ch.refl _ w) hpost
    have K1 := Lib.hid Q1
    clear HN hpost Q1
    go_wp2_with fail
    refine (alive_any _).mono ?_
    rintro e w7 ⟨rfl, hb7⟩
    go_wp2_with fail
    go_ret
    exact ⟨rfl, (K1.out.ch.call hb7).below⟩
  · have t0 : decide (p < 0) = false := by simp; omega
    have t1 : decide (100 < p) = false := by simp; omega
    have t2 : decide (n < 0) = false := by simp; omega
    have t3 : decide (100 < n) = true := by simp; omega
    have HN := Lib.hid (qnew_any w)
    clear h
    go_enter Try.func6, Try.ntmps6
    go_wp2_with fail
    refine HN.out.mono ?_
    intro e w1 hpost
    obtain ⟨q, b1, b2, rfl, Q1⟩ := qnew_in (Ch.refl _ w) hpost
    have K1 := Lib.hid Q1
    clear HN hpost Q1
    go_wp2_with fail
    refine (alive_any _).mono ?_
    rintro e w7 ⟨rfl, hb7⟩
    go_wp2_with fail
    go_ret
    exact ⟨rfl, (K1.out.ch.call hb7).below⟩

/-- QueueNone answers true. -/
theorem none_row (p n : Int) (w : World) (_ : (Lit.int .i64 p).wf = true) (_ : (Lit.int .i64 n).wf = true) : Calls Try.prog 6 #[.int .i64 p, .int .i64 n] w fun e w' => e = .returned (.bool true) ∧ Below w.heap.size w w' := by
  by_cases h : (0 ≤ p ∧ p ≤ 100) ∧ (0 ≤ n ∧ n ≤ 100)
  · obtain ⟨k, rfl⟩ : ∃ k : Nat, p = (k : Int) := ⟨p.toNat, by omega⟩
    obtain ⟨j, rfl⟩ : ∃ j : Nat, n = (j : Int) := ⟨n.toNat, by omega⟩
    exact none_main k j w (by omega) (by omega)
  · exact none_bad p n w (by omega)
end Go.Proofs.Ythknfikjanoflaa
