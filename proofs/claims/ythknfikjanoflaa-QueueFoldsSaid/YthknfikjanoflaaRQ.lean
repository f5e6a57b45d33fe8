/- The reference's readers and writers of pack, and its Data and Parse of queue, by their contracts. -/
import Derived.Test.YthknfikjanoflaaBAll
import Derived.Test.YthknfikjanoflaaQAll
set_option linter.unusedVariables false
set_option linter.unusedSimpArgs false
namespace Go.Proofs.Ythknfikjanoflaa
open Go.RowKit PReadText Go.Proofs.YthknfikjanoflaaW.PrintWords

theorem rnum_any (n : Nat) (w : World) (hn : n ≤ 4611686018427387904) : Calls Try.prog 30 #[.int .i64 (n : Int)] w fun e w' => e = .returned (.string (bS (encN n))) ∧ Below w.heap.size w w' := by
  obtain ⟨K, hK⟩ := numf n hn
  exact carabinerref02_Num.calls K _ _ w (hK K (Nat.le_refl _))
def rdV (B : List Nat) (e : Int) : Value := .agg #[.string (bS B), .int .i64 e]
theorem rreadnum_any (l : List Nat) (hb : ∀ b ∈ l, b < 256) (e limit : Int) (w : World) {v c : Nat} {e2 : Int} (hq : numE e limit l = (v, c, e2)) :
    Calls Try.prog 36 #[rdV l e, .int .i64 limit] w fun x w' => x = .returned (.tuple #[rdV (l.drop c) e2, .int .i64 (v : Nat)]) ∧ Below w.heap.size w w' := by
  unfold rdV
  by_cases he : e = 0
  · subst he
    have hq2 : numF limit l = (v, c, e2) := by unfold numE at hq; rwa [if_pos rfl] at hq
    obtain ⟨K, hK⟩ := readnum_ok l hb limit
    rw [hq2] at hK
    exact carabinerref02_ReadNum.calls K _ _ _ _ _ _ w (hK K (Nat.le_refl _))
  · have a1 : numE e limit l = (0, 0, e) := by unfold numE; rw [if_neg he]
    rw [a1] at hq
    cases hq
    refine carabinerref02_ReadNum.calls 0 _ _ _ _ _ _ w ?_
    unfold carabinerref02_ReadNum.f
    rw [if_neg he]
    rfl
theorem textE_err {e limit : Int} {l : List Nat} (he : e ≠ 0) : textE e limit l = ([], 0, e) := by
  have a1 : numE e limit l = (0, 0, e) := by unfold numE; rw [if_neg he]
  unfold textE
  rw [a1]
  simp [he]
theorem rreadtext_any (l : List Nat) (hb : ∀ b ∈ l, b < 256) (e limit : Int) (w : World) {t : List Nat} {c : Nat} {e2 : Int} (hq : textE e limit l = (t, c, e2)) :
    Calls Try.prog 37 #[rdV l e, .int .i64 limit] w fun x w' => x = .returned (.tuple #[rdV (l.drop c) e2, .string (bS t)]) ∧ Below w.heap.size w w' := by
  unfold rdV
  by_cases he : e = 0
  · subst he
    obtain ⟨K, hK⟩ := readtext_ok l hb limit
    rw [hq] at hK
    exact carabinerref02_ReadText.calls K _ _ _ _ _ _ w (hK K (Nat.le_refl _))
  · rw [textE_err he] at hq
    cases hq
    refine carabinerref02_ReadText.calls 0 _ _ _ _ _ _ w ?_
    have b1 : carabinerref02_ReadNum.f 0 (bS l) e limit = some (bS l, e, 0) := by unfold carabinerref02_ReadNum.f; rw [if_neg he]
    unfold carabinerref02_ReadText.f
    rw [b1, Option.bind_some]
    simp [he, bS]

set_option maxRecDepth 100000 in
theorem rtextw_any (s : ByteArray) (w : World) (hs : s.size ≤ 140737488351232) : Calls Try.prog 31 #[.string s] w fun e w' => e = .returned (.string (bS (encN s.size ++ sB s))) ∧ Below w.heap.size w w' := by
  have HN := Lib.hid (rnum_any s.size w (by omega))
  have hen : (encN s.size).length ≤ 9 := encN_len 8 s.size (by omega)
  have hm : (bS (encN s.size)).size ≤ 9 := by rw [bS_size]; exact hen
  have hm2 : ¬ (9223372036854775807 < (bS (encN s.size)).size + s.size) := by omega
  have HB := Lib.hid (show bS (encN s.size) ++ s = bS (encN s.size ++ sB s) by rw [← bS_add, bS_sB])
  clear hen hs
  go_enter Try.func31, Try.ntmps31
  go_wp2_with fail
  refine HN.out.mono ?_
  rintro e w2 ⟨rfl, hb2⟩
  go_wp2_with fail
  go_ret
  first | exact ⟨rfl, hb2⟩ | exact ⟨by rw [← HB.out]; rfl, hb2⟩

def endF (B : List Nat) (e : Int) : Int := if e = 0 then (if B = [] then 0 else 22) else e
set_option maxRecDepth 100000 in
set_option maxHeartbeats 4000000 in
theorem rend_any (B : List Nat) (e : Int) (w : World) : Calls Try.prog 38 #[rdV B e] w fun x w' => x = .returned (.int .i64 (endF B e)) ∧ Below w.heap.size w w' := by
  unfold rdV
  by_cases he : e = 0
  · have t1 : (e == 0) = true := by simpa using he
    by_cases hB : B = []
    · subst hB
      rw [show endF [] e = 0 by unfold endF; rw [if_pos he, if_pos rfl]]
      subst he
      have hz : (bS []).size = 0 := rfl
      go_enter Try.func38, Try.ntmps38
      go_wp2_with fail
      go_ret
      exact ⟨rfl, Ch.below (by (repeat (first | with_reducible assumption | with_reducible exact Ch.refl _ _ | with_reducible refine Ch.drew ?_ | with_reducible refine Ch.alloc ?_ _ | (with_reducible refine Ch.set' ?_ ?_; focus (first | (right; rfl; done) | (left; simp; done) | (left; simp; omega) | (left; omega) | (right; simp; done) | (right; simp; omega))))))⟩
    · rw [show endF B e = 22 by unfold endF; rw [if_pos he, if_neg hB]]
      have hz : decide ((0 : Int) < ((bS B).size : Int)) = true := by
        rw [bS_size]
        have : 0 < B.length := List.length_pos_iff.2 hB
        simp; omega
      have hz2 : decide (0 < (bS B).size) = true := by simpa using hz
      have hz3 : 0 < (bS B).size := by simpa using hz
      clear hB
      subst he
      go_enter Try.func38, Try.ntmps38
      go_wp2_with fail
      go_ret
      exact ⟨rfl, Ch.below (by (repeat (first | with_reducible assumption | with_reducible exact Ch.refl _ _ | with_reducible refine Ch.drew ?_ | with_reducible refine Ch.alloc ?_ _ | (with_reducible refine Ch.set' ?_ ?_; focus (first | (right; rfl; done) | (left; simp; done) | (left; simp; omega) | (left; omega) | (right; simp; done) | (right; simp; omega))))))⟩
  · have t1 : (e == 0) = false := by simpa using he
    rw [show endF B e = e by unfold endF; rw [if_neg he]]
    clear he
    go_enter Try.func38, Try.ntmps38
    go_wp2_with fail
    go_ret
    exact ⟨rfl, Ch.below (by (repeat (first | with_reducible assumption | with_reducible exact Ch.refl _ _ | with_reducible refine Ch.drew ?_ | with_reducible refine Ch.alloc ?_ _ | (with_reducible refine Ch.set' ?_ ?_; focus (first | (right; rfl; done) | (left; simp; done) | (left; simp; omega) | (left; omega) | (right; simp; done) | (right; simp; omega))))))⟩

/-- What a log has of an event. -/
def dataL (e : Ev) : List Nat := if e.push = true then pushL e.id e.item else popL e.id
theorem dataL_lt (e : Ev) : ∀ b ∈ dataL e, b < 256 := by
  unfold dataL
  split
  · exact pushL_lt _ _
  · exact popL_lt _
set_option maxRecDepth 100000 in
set_option maxHeartbeats 4000000 in
theorem rdata_bad (p : Bool) (id : Int) (s : ByteArray) (w : World) (h : ¬ PushOk id s) (hs : s.size ≤ 140737488351232) :
    Calls Try.prog 11 #[.agg #[.bool p, .int .i64 id, .string s]] w fun e w' => e = .returned (.tuple #[.string ⟨#[]⟩, .bool false]) ∧ Below w.heap.size w w' := by
  obtain ⟨z1, z2⟩ := (Blk.new w #[.bool p, .int .i64 id, .string s] 27).laterCells
  have HB := Lib.hid (below1 w (.cells #[.bool p, .int .i64 id, .string s] 27))
  by_cases h0 : id < 0
  · have t0 : decide (id < 0) = true := by simpa using h0
    clear h h0
    go_enter Try.func11, Try.ntmps11
    go_wp2_with fail
    exact bodyPost_ret (v := .tuple #[.string ⟨#[]⟩, .bool false]) (by simp [results, Try.results11, go_sem]) rfl ⟨rfl, HB.out⟩
  have t0 : decide (id < 0) = false := by simpa using h0
  by_cases h1 : 1099511627776 < id
  · have t1 : decide (1099511627776 < id) = true := by simpa using h1
    clear h h0 h1
    go_enter Try.func11, Try.ntmps11
    go_wp2_with fail
    exact bodyPost_ret (v := .tuple #[.string ⟨#[]⟩, .bool false]) (by simp [results, Try.results11, go_sem]) rfl ⟨rfl, HB.out⟩
  · have t1 : decide (1099511627776 < id) = false := by simpa using h1
    have t2 : decide ((900 : Int) < (s.size : Int)) = true := by
      rcases Nat.lt_or_ge 900 s.size with h2 | h2
      · simp; omega
      · exact absurd ⟨⟨by omega, by omega⟩, h2⟩ h
    clear h h0 h1
    go_enter Try.func11, Try.ntmps11
    go_wp2_with fail
    exact bodyPost_ret (v := .tuple #[.string ⟨#[]⟩, .bool false]) (by simp [results, Try.results11, go_sem]) rfl ⟨rfl, HB.out⟩
set_option maxRecDepth 100000 in
set_option maxHeartbeats 4000000 in
theorem rdata_ok (ev : Ev) (w : World) (h : ev.id ≤ 1099511627776) (hs : ev.item.size ≤ 900) :
    Calls Try.prog 11 #[.agg #[.bool ev.push, .int .i64 (ev.id : Nat), .string ev.item]] w fun e w' => e = .returned (.tuple #[.string (bS (dataL ev)), .bool true]) ∧ Below w.heap.size w w' := by
  obtain ⟨p, id, s⟩ := ev
  simp only at h hs ⊢
  have t0 : decide ((id : Int) < 0) = false := by simp
  have t1 : decide (1099511627776 < (id : Int)) = false := by simp; omega
  have t2 : decide ((900 : Int) < (s.size : Int)) = false := by simp; omega
  obtain ⟨z1, z2⟩ := (Blk.new w #[.bool p, .int .i64 (id : Nat), .string s] 27).cells
  have HB := Lib.hid (below1 w (.cells #[.bool p, .int .i64 (id : Nat), .string s] 27))
  cases p with
  | true =>
    rw [show dataL ⟨true, id, s⟩ = pushL id s from rfl]
    obtain ⟨z3, z4⟩ := (Blk.new w #[.bool true, .int .i64 (id : Nat), .string s] 27).laterCells
    have HX := Lib.hid (fun x : Later (w.alloc (.cells #[.bool true, .int .i64 (id : Nat), .string s] 27)) => rnum_any id x.w (by omega))
    have HY := Lib.hid (fun x : Later (w.alloc (.cells #[.bool true, .int .i64 (id : Nat), .string s] 27)) => rtextw_any s x.w (by omega))
    have hen := encN_len 8 id (by omega)
    have hen2 := encN_len 8 s.size (by omega)
    obtain ⟨x, hx⟩ : ∃ x, x = bS (encN id) := ⟨_, rfl⟩
    obtain ⟨y, hy⟩ : ∃ y, y = bS (encN s.size ++ sB s) := ⟨_, rfl⟩
    have hxs : x.size ≤ 9 := by rw [hx, bS_size]; exact hen
    have hys : y.size ≤ 1000 := by rw [hy, bS_size, List.length_append, sB_length]; omega
    have n1 : ¬ (9223372036854775807 < 1 + x.size) := by omega
    have n2 : ¬ (9223372036854775807 < 1 + x.size + y.size) := by omega
    rw [← hx] at HX
    rw [← hy] at HY
    have HE := Lib.hid (show (⟨#[1]⟩ : ByteArray) ++ x ++ y = bS (pushL id s) by
      rw [hx, hy, show (⟨#[1]⟩ : ByteArray) = bS [1] from rfl, bS_add, bS_add]
      rfl)
    clear hen hen2 hx hy h hs hxs hys
    go_enter Try.func11, Try.ntmps11
    go_wp2_with fail
    refine wp_region_later (by kernel_rfl) (by kernel_rfl) ?_
    repeat (go_big_quiet_step (first | (go_at_call 30; exact Calls.later (HX.out _)) | (go_at_call 31; exact Calls.later (HY.out _))))
    refine wpQuiet_nil ?_
    rintro _ ⟨u, rfl⟩
    go_wp2_with fail
    exact bodyPost_ret (v := .tuple #[.string (⟨#[1]⟩ ++ x ++ y), .bool true]) (by simp [results, Try.results11, go_sem]) rfl ⟨by rw [HE.out], HB.out.trans (u.h.mono HB.out.size)⟩
  | false =>
    rw [show dataL ⟨false, id, s⟩ = popL id from rfl]
    have HX := Lib.hid (fun w' => rnum_any id w' (by omega))
    have hen := encN_len 8 id (by omega)
    obtain ⟨x, hx⟩ : ∃ x, x = bS (encN id) := ⟨_, rfl⟩
    have hxs : x.size ≤ 9 := by rw [hx, bS_size]; exact hen
    have n1 : ¬ (9223372036854775807 < 1 + x.size) := by omega
    rw [← hx] at HX
    have HE := Lib.hid (show (⟨#[2]⟩ : ByteArray) ++ x = bS (popL id) by
      rw [hx, show (⟨#[2]⟩ : ByteArray) = bS [2] from rfl, bS_add]
      rfl)
    clear hen hx h hs hxs
    go_enter Try.func11, Try.ntmps11
    go_wp2_with fail
    refine (HX.out _).mono ?_
    rintro e w2 ⟨rfl, hb2⟩
    go_wp2_with fail
    exact bodyPost_ret (v := .tuple #[.string (⟨#[2]⟩ ++ x), .bool true]) (by simp [results, Try.results11, go_sem]) rfl ⟨by rw [HE.out], HB.out.trans (hb2.mono HB.out.size)⟩
end Go.Proofs.Ythknfikjanoflaa
