/- flow's Next, Offer, Fold. -/
import Derived.Test.YtoknpcohhnlncaaFlowA
set_option linter.unusedVariables false
set_option linter.unusedSimpArgs false
namespace Go.Proofs.Ytoknpcohhnlncaa
open Go.RowKit

theorem addF_len (n : Int) (vals : List ByteArray) (l : List Nat) : (addF n vals l).1.length ≤ vals.length + 1 := by
  unfold addF
  split
  · split <;> simp
  · simp
theorem AddPost.at {s : Nat} {vb : Option Nat} {base : Nat} {n : Int} {vals : List ByteArray} {l : List Nat} {w : World} {e : Ending} {w' : World} (h : AddPost s vb base n vals l w e w') {vals2 : List ByteArray} {ok : Bool} (ha : addF n vals l = (vals2, ok)) :
    ∃ vb', e = .returned (.bool ok) ∧ St w' s vb' base n vals2 ∧ (∀ g, vb' = some g → vb = some g ∨ w.heap.size ≤ g) ∧ Ch (fun k => k = s ∨ vb = some k) w w' := by
  unfold AddPost at h
  rw [ha] at h
  exact h

theorem St.boxLater {w : World} {s : Nat} {vb : Option Nat} {base : Nat} {n : Int} {vals : List ByteArray} (h : St w s vb base n vals) : ∃ v, Blk w s #[.int .i64 n, v] 65 := ⟨_, h.box.choose_spec.1⟩

def nextV (n : Int) (vals : List ByteArray) : Value := if n ≤ vals.length then .tuple #[.int .i64 0, .string ⟨#[]⟩, .bool false] else .tuple #[.int .i64 (vals.length : Nat), .string (vals.getLastD ⟨#[]⟩), .bool true]
theorem valueV_last (vals : List ByteArray) : ∃ b, valueV vals ((vals.length : Int) - 1) = .tuple #[.string (vals.getLastD ⟨#[]⟩), .bool b] := by
  unfold valueV
  rcases List.eq_nil_or_concat vals with rfl | ⟨l, x, rfl⟩
  · exact ⟨false, rfl⟩
  · refine ⟨true, ?_⟩
    rw [if_pos (by simp; omega)]
    simp

set_option maxRecDepth 100000 in
set_option maxHeartbeats 4000000 in
theorem next_any (s : Nat) (vb : Option Nat) (base : Nat) (n : Int) (vals : List ByteArray) (w : World) (h : St w s vb base n vals) :
    Calls Try.prog 17 #[.pointer (some ⟨s, 0, none⟩)] w fun e w' => e = .returned (nextV n vals) ∧ Below w.heap.size w w' := by
  obtain ⟨v, h1⟩ := h.boxLater
  obtain ⟨q1, q2⟩ := h1.laterCells
  have HD := Lib.hid (fun x : Later w => done_any s vb base n vals x.w (h.below x.h))
  have HS := Lib.hid h
  have hsm := h.small
  clear h h1
  by_cases hn : n ≤ vals.length
  · have t0 : decide (n ≤ (vals.length : Int)) = true := by simpa using hn
    have hv : nextV n vals = .tuple #[.int .i64 0, .string ⟨#[]⟩, .bool false] := by unfold nextV; rw [if_pos hn]
    have HV := Lib.hid hv
    clear hn hv
    go_enter Try.func17, Try.ntmps17
    go_wp2_with fail
    refine wp_region_later (by kernel_rfl) (by kernel_rfl) ?_
    repeat (go_big_quiet_step (first | (go_at_call 14; exact Calls.later (HD.out _))))
    refine wpQuiet_nil ?_
    rintro _ ⟨x, rfl⟩
    go_wp2_with fail
    exact bodyPost_ret (v := .tuple #[.int .i64 0, .string ⟨#[]⟩, .bool false]) (by simp [results, Try.results17, go_sem]) rfl ⟨by rw [HV.out], x.h⟩
  · have t0 : decide (n ≤ (vals.length : Int)) = false := by simpa using hn
    obtain ⟨b, hb⟩ := valueV_last vals
    obtain ⟨last, hlast⟩ : ∃ x, x = vals.getLastD ⟨#[]⟩ := ⟨_, rfl⟩
    rw [← hlast] at hb
    have hv : nextV n vals = .tuple #[.int .i64 (vals.length : Nat), .string last, .bool true] := by unfold nextV; rw [if_neg hn, hlast]
    have HV := Lib.hid hv
    have HB := Lib.hid hb
    clear hn hv hlast hb
    go_enter Try.func17, Try.ntmps17
    go_wp2_with fail
    refine wp_region_later (by kernel_rfl) (by kernel_rfl) ?_
    repeat (go_big_quiet_step (first | (go_at_call 14; exact Calls.later (HD.out _))))
    refine wpQuiet_nil ?_
    rintro _ ⟨x, rfl⟩
    go_wp2_with fail
    refine (HD.out x).mono ?_
    rintro e w2 ⟨rfl, hb2⟩
    have HC2 := Lib.hid (x.h.trans (hb2.mono x.h.size))
    have HVA := value_any s vb base n vals ((vals.length : Int) - 1) w2 (HS.out.below HC2.out)
    rw [HB.out] at HVA
    have HVA := Lib.hid HVA
    clear hb2 HD q1 q2
    go_wp2_with fail
    refine HVA.out.mono ?_
    rintro e w3 ⟨rfl, hb3⟩
    have HC3 := Lib.hid (HC2.out.trans (hb3.mono HC2.out.size))
    have HD3 := Lib.hid (done_any s vb base n vals w3 (HS.out.below HC3.out))
    clear HVA hb3 HC2
    go_wp2_with fail
    refine HD3.out.mono ?_
    rintro e w4 ⟨rfl, hb4⟩
    have HC4 := Lib.hid (HC3.out.trans (hb4.mono HC3.out.size))
    go_wp2_with fail
    exact bodyPost_ret (v := .tuple #[.int .i64 (vals.length : Nat), .string last, .bool true]) (by simp [results, Try.results17, go_sem]) rfl ⟨by rw [HV.out], HC4.out⟩

/-- What is offered. -/
def offerV (n : Int) (vals : List ByteArray) (x : ByteArray) : Value :=
  if n ≤ vals.length then .tuple #[.string ⟨#[]⟩, .int .i64 200] else match noteF vals.length x with
    | some l => .tuple #[.string (bS l), .int .i64 0]
    | none => .tuple #[.string ⟨#[]⟩, .int .i64 1]
set_option maxRecDepth 100000 in
set_option maxHeartbeats 4000000 in
theorem offer_any (s : Nat) (vb : Option Nat) (base : Nat) (n : Int) (vals : List ByteArray) (x : ByteArray) (w : World) (h : St w s vb base n vals) (hx : x.size ≤ maxLen) :
    Calls Try.prog 18 #[.pointer (some ⟨s, 0, none⟩), .string x] w fun e w' => e = .returned (offerV n vals x) ∧ Below w.heap.size w w' := by
  have HN := next_any s vb base n vals w h
  unfold nextV at HN
  by_cases hn : n ≤ vals.length
  · have hv : offerV n vals x = .tuple #[.string ⟨#[]⟩, .int .i64 200] := by unfold offerV; rw [if_pos hn]
    rw [if_pos hn] at HN
    have HV := Lib.hid hv
    have HN := Lib.hid HN
    clear hn hv h
    go_enter Try.func18, Try.ntmps18
    go_wp2_with fail
    refine HN.out.mono ?_
    rintro e w2 ⟨rfl, hb2⟩
    go_wp2_with fail
    exact bodyPost_ret (v := .tuple #[.string ⟨#[]⟩, .int .i64 200]) (by simp [results, Try.results18, go_sem]) rfl ⟨by rw [HV.out], hb2⟩
  · rw [if_neg hn] at HN
    have HN := Lib.hid HN
    cases hno : noteF vals.length x with
    | none =>
      have hv : offerV n vals x = .tuple #[.string ⟨#[]⟩, .int .i64 1] := by unfold offerV; rw [if_neg hn, hno]
      have HV := Lib.hid hv
      have HNO := Lib.hid (fun w2 => note_bad _ x w2 hno hx)
      clear hn hv h hno
      go_enter Try.func18, Try.ntmps18
      go_wp2_with fail
      refine HN.out.mono ?_
      rintro e w2 ⟨rfl, hb2⟩
      go_wp2_with fail
      refine (HNO.out w2).mono ?_
      rintro e w3 ⟨rfl, hb3⟩
      have HC3 := Lib.hid (hb2.trans (hb3.mono hb2.size))
      go_wp2_with fail
      exact bodyPost_ret (v := .tuple #[.string ⟨#[]⟩, .int .i64 1]) (by simp [results, Try.results18, go_sem]) rfl ⟨by rw [HV.out], HC3.out⟩
    | some l =>
      have hv : offerV n vals x = .tuple #[.string (bS l), .int .i64 0] := by unfold offerV; rw [if_neg hn, hno]
      have HV := Lib.hid hv
      have HNO := Lib.hid (fun w2 => note_ok _ x l w2 hno)
      clear hn hv h hno
      go_enter Try.func18, Try.ntmps18
      go_wp2_with fail
      refine HN.out.mono ?_
      rintro e w2 ⟨rfl, hb2⟩
      go_wp2_with fail
      refine (HNO.out w2).mono ?_
      rintro e w3 ⟨rfl, hb3⟩
      have HC3 := Lib.hid (hb2.trans (hb3.mono hb2.size))
      go_wp2_with fail
      exact bodyPost_ret (v := .tuple #[.string (bS l), .int .i64 0]) (by simp [results, Try.results18, go_sem]) rfl ⟨by rw [HV.out], HC3.out⟩

/-- The values behind a log. -/
def foldF (n : Int) (vals : List ByteArray) (log : List ByteArray) : List ByteArray := log.foldl (fun vs d => (addF n vs (sB d)).1) vals
def oS (s : ByteArray) : List Value := [.string s]
def FoldPost (n : Int) (log : List ByteArray) (w : World) (e : Ending) (w' : World) : Prop :=
  ∃ s vb, e = .returned (.tuple #[.pointer (some ⟨s, 0, none⟩), .int .i64 0]) ∧ St w' s vb w.heap.size n (foldF n [] log) ∧ w.heap.size ≤ s ∧ (∀ g, vb = some g → w.heap.size ≤ g) ∧ Below w.heap.size w w'
theorem foldF_snoc (n : Int) (vals log : List ByteArray) (d : ByteArray) : foldF n vals (log ++ [d]) = (addF n (foldF n vals log) (sB d)).1 := by unfold foldF; rw [List.foldl_append]; rfl
theorem foldF_append (n : Int) (vals log more : List ByteArray) : foldF n vals (log ++ more) = foldF n (foldF n vals log) more := by unfold foldF; rw [List.foldl_append]

/-- Fold's loop. -/
def FoldIn (w : World) (s : Nat) (n : Int) (log : List ByteArray) (v : Value) (wi : World) : Prop :=
  ∃ j vb, j ≤ log.length ∧ v = .int .i64 (j : Nat) ∧ St wi s vb w.heap.size n (foldF n [] (log.take j)) ∧ (∀ g, vb = some g → w.heap.size ≤ g) ∧ Ch (fun _ => False) w wi

theorem fold_bad (n : Int) (a : Option Addr) (len cap : Nat) (w : World) (h : n < 1 ∨ 64 < n) :
    Calls Try.prog 12 #[.int .i64 n, .slice a len cap] w fun e w' => e = .returned (.tuple #[.pointer none, .int .i64 1]) ∧ Below w.heap.size w w' := by
  by_cases h0 : n < 1
  · have t0 : decide (n < 1) = true := by simpa using h0
    clear h h0
    go_enter Try.func12, Try.ntmps12
    go_wp2_with fail
    exact bodyPost_ret (v := .tuple #[.pointer none, .int .i64 1]) (by simp [results, Try.results12, go_sem]) rfl ⟨rfl, Ch.below (by (repeat (first | with_reducible assumption | with_reducible exact Ch.refl _ _ | with_reducible refine Ch.drew ?_ | with_reducible refine Ch.alloc ?_ _ | (with_reducible refine Ch.set' ?_ ?_; focus (first | (right; rfl; done) | (left; simp; done) | (left; simp; omega) | (left; omega) | (right; simp; done) | (right; simp; omega))))))⟩
  · have t0 : decide (n < 1) = false := by simpa using h0
    have t1 : decide (64 < n) = true := by simp; omega
    clear h h0
    go_enter Try.func12, Try.ntmps12
    go_wp2_with fail
    exact bodyPost_ret (v := .tuple #[.pointer none, .int .i64 1]) (by simp [results, Try.results12, go_sem]) rfl ⟨rfl, Ch.below (by (repeat (first | with_reducible assumption | with_reducible exact Ch.refl _ _ | with_reducible refine Ch.drew ?_ | with_reducible refine Ch.alloc ?_ _ | (with_reducible refine Ch.set' ?_ ?_; focus (first | (right; rfl; done) | (left; simp; done) | (left; simp; omega) | (left; omega) | (right; simp; done) | (right; simp; omega))))))⟩

set_option maxRecDepth 100000 in
set_option maxHeartbeats 4000000 in
theorem fold_ok (n : Int) (a : Option Addr) (cap : Nat) (log : List ByteArray) (w : World) (h1 : 1 ≤ n) (h2 : n ≤ 64) (ro : RowAt w a 1 oS log) (hd : ∀ d ∈ log, d.size ≤ 140737488351232) (hl : log.length ≤ 140737488351232) :
    Calls Try.prog 12 #[.int .i64 n, .slice a log.length cap] w (FoldPost n log w) := by
  have t0 : decide (n < 1) = false := by simp; omega
  have t1 : decide (64 < n) = false := by simp; omega
  have HRO := Lib.hid ro
  have HD := Lib.hid hd
  clear ro hd
  go_enter Try.func12, Try.ntmps12
  go_wp2_with fail
  have S0 : St (w.alloc (.cells #[.int .i64 n, .slice none 0 0] 65)) w.heap.size none w.heap.size n [] := ⟨⟨_, Blk.new w _ _, SRow.nil _ _, rfl⟩, by simp, by simp⟩
  go_loopw [23] (fun v23 wi => FoldIn w w.heap.size n log v23 wi) (fun i _ => log.length - (intOf i).toNat)
  case atStart => exact ⟨0, none, Nat.zero_le _, rfl, by simpa [foldF] using S0, by simp, (Ch.refl _ w).alloc _⟩
  case round =>
    obtain ⟨j, vb, hj, rfl, S5, hvb, C5⟩ := hrel
    have KS := Lib.hid S5
    have KC := Lib.hid C5
    have KV := Lib.hid hvb
    clear S0 S5 C5 hvb
    by_cases hlt : j < log.length
    · have ht : decide ((j : Int) < (log.length : Int)) = true := by simpa using hlt
      have ht2 : decide (log.length ≤ j) = false := by simpa using hlt
      obtain ⟨d, hp⟩ : ∃ d, log[j]? = some d := ⟨_, List.getElem?_eq_getElem hlt⟩
      obtain ⟨b0, off, rfl, hb0, hcells⟩ := HRO.out j d hp
      have q0 : wr.cell? ⟨b0, off + j, none⟩ = some (.string d) := by
        have := (KC.out.below.cell (p := ⟨b0, _, none⟩) hb0).trans (hcells 0 _ rfl)
        simpa using this
      have HF := Lib.hid (foldF_snoc n [] (log.take j) d)
      rw [show log.take j ++ [d] = log.take (j + 1) by rw [List.take_add_one, hp]; rfl] at HF
      obtain ⟨⟨vals2, ok⟩, ha⟩ : ∃ x, addF n (foldF n [] (log.take j)) (sB d) = x := ⟨_, rfl⟩
      have HA := Lib.hid (add_any w.heap.size vb w.heap.size n _ d wr KS.out KC.out.size h2 (HD.out d (List.mem_of_getElem? hp)))
      have HAF := Lib.hid ha
      clear hcells ha
      go_wp2_with fail
      refine HA.out.mono ?_
      intro e w2 hpost
      obtain ⟨vb2, rfl, S2, hv2, c2⟩ := hpost.at HAF.out
      have HS2 := Lib.hid S2
      have HV2 := Lib.hid hv2
      have HC2 := Lib.hid (KC.out.step c2 (fun k hk e => by
        rcases e with e | e
        · omega
        · have := KV.out k e; omega))
      clear HA hpost S2 hv2 c2
      go_wp2_with fail
      go_roundw
      case rel => exact ⟨j + 1, vb2, hlt, by simp, by rw [HF.out, HAF.out]; exact HS2.out, fun g e => by
        rcases HV2.out g e with h | h
        · exact KV.out g h
        · exact Nat.le_trans KC.out.size h, HC2.out⟩
      case measure => simp only [intOf]; omega
    · have ht : decide ((j : Int) < (log.length : Int)) = false := by simpa using hlt
      have ht2 : decide (log.length ≤ j) = true := by simp; omega
      have KS2 := KS.out
      rw [show j = log.length by omega, List.take_length] at KS2
      have HS2 := Lib.hid KS2
      clear KS KS2
      go_wp2_with fail
      exact bodyPost_ret (v := .tuple #[.pointer (some ⟨w.heap.size, 0, none⟩), .int .i64 0]) (by simp [results, Try.results12, go_sem]) rfl ⟨_, vb, rfl, HS2.out, Nat.le_refl _, KV.out, KC.out.below⟩
end Go.Proofs.Ytoknpcohhnlncaa
