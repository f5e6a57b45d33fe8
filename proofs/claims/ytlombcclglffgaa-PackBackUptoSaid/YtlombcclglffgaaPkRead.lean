/- The pack laws' 'read': a part that the program reads. -/
import Derived.Test.YtlombcclglffgaaPkBridge5
import Derived.Test.YtlombcclglffgaaPkAlive
set_option linter.unusedVariables false
set_option linter.unusedSimpArgs false
namespace Go.Proofs.Ytlombcclglffgaa
open Go.RowKit

/-- What 'read' hands back. -/
def ReadPost (r g : Nat) (bs : List Nat) (k : Nat) (e : Int) (p : PartD) (w : World) (x : Ending) (w' : World) : Prop :=
  x = .returned (.agg #[.int .i64 (partE e (bs.drop k) p).1.k, .int .i64 (partE e (bs.drop k) p).1.n, .int .i64 (partE e (bs.drop k) p).1.most, .string (partE e (bs.drop k) p).1.s, .bool (partE e (bs.drop k) p).1.is]) ∧
    Rd w' r g bs (k + (partE e (bs.drop k) p).2.1) (partE e (bs.drop k) p).2.2 ∧ Ch (· = r) w w'
theorem ReadPost.of {r g : Nat} {bs : List Nat} {k : Nat} {e : Int} {p : PartD} {w w' : World} {x : Ending} {q : PartD} {c : Nat} {e2 : Int} (h : partE e (bs.drop k) p = (q, c, e2)) (hx : x = .returned (.agg #[.int .i64 q.k, .int .i64 q.n, .int .i64 q.most, .string q.s, .bool q.is])) (hr : Rd w' r g bs (k + c) e2) (hc : Ch (· = r) w w') : ReadPost r g bs k e p w x w' := by
  unfold ReadPost
  rw [h]
  exact ⟨hx, hr, hc⟩

set_option maxRecDepth 100000 in
set_option maxHeartbeats 4000000 in
theorem read_none (r g : Nat) (bs : List Nat) (k : Nat) (e : Int) (p : PartD) (w : World) (h : Rd w r g bs k e) (h0 : p.k ≠ 0) (h1 : p.k ≠ 1) (h2 : p.k ≠ 2) :
    Calls Try.prog 21 #[.pointer (some ⟨r, 0, none⟩), .agg #[.int .i64 p.k, .int .i64 p.n, .int .i64 p.most, .string p.s, .bool p.is]] w (ReadPost r g bs k e p w) := by
  have hp : partE e (bs.drop k) p = (⟨p.k, 0, p.most, bS [], false⟩, 0, e) := by unfold partE; rw [if_neg h0, if_neg h1, if_neg h2]
  have HP := Lib.hid hp
  have H := Lib.hid h
  have t0 : (p.k == 0) = false := by simp [h0]
  have t1 : (p.k == 1) = false := by simp [h1]
  have t2 : (p.k == 2) = false := by simp [h2]
  have hlt := h.lt
  clear hp h h0 h1 h2
  go_enter Try.func21, Try.ntmps21
  go_wp2_with fail
  refine bodyPost_ret (v := .agg #[.int .i64 p.k, .int .i64 0, .int .i64 p.most, .string ⟨#[]⟩, .bool false]) (by simp [results, Try.results21, go_sem]) rfl ?_
  exact ReadPost.of HP.out rfl (((H.out.alloc _).alloc _).alloc _) (by (repeat (first | with_reducible assumption | with_reducible exact Ch.refl _ _ | with_reducible refine Ch.drew ?_ | with_reducible refine Ch.alloc ?_ _ | (with_reducible refine Ch.set' ?_ ?_; focus (first | (right; rfl; done) | (left; simp; done) | (left; simp; omega) | (left; omega) | (right; simp; done) | (right; simp; omega))))))

set_option maxRecDepth 100000 in
set_option maxHeartbeats 4000000 in
theorem read_num (r g : Nat) (bs : List Nat) (k : Nat) (e : Int) (p : PartD) (w : World) (h : Rd w r g bs k e) (hb : ∀ b ∈ bs, b < 256) (hlen : bs.length ≤ maxLen) (hk : p.k = 0) :
    Calls Try.prog 21 #[.pointer (some ⟨r, 0, none⟩), .agg #[.int .i64 p.k, .int .i64 p.n, .int .i64 p.most, .string p.s, .bool p.is]] w (ReadPost r g bs k e p w) := by
  have H := Lib.hid (((h.alloc (.cells #[.int .i64 p.k, .int .i64 p.n, .int .i64 p.most, .string p.s, .bool p.is] 38)).alloc (.cells #[.int .i64 0, .int .i64 0, .int .i64 0, .string ⟨#[]⟩, .bool false] 38)).alloc (.cells #[.int .i64 p.k, .int .i64 0, .int .i64 p.most, .string ⟨#[]⟩, .bool false] 38))
  have HN := Lib.hid (num_any r g bs k e p.most _ H.out hb hlen)
  obtain ⟨hlt, hgt⟩ := h.lt
  have B1 : Blk (((w.alloc (.cells #[.int .i64 p.k, .int .i64 p.n, .int .i64 p.most, .string p.s, .bool p.is] 38)).alloc (.cells #[.int .i64 0, .int .i64 0, .int .i64 0, .string ⟨#[]⟩, .bool false] 38)).alloc (.cells #[.int .i64 p.k, .int .i64 0, .int .i64 p.most, .string ⟨#[]⟩, .bool false] 38)) (w.heap.size + 1) #[.int .i64 0, .int .i64 0, .int .i64 0, .string ⟨#[]⟩, .bool false] 38 := by (repeat (first | (with_reducible refine Blk.new' ?_; first | rfl | (simp; done) | (simp; omega)) | with_reducible refine Blk.drew ?_ | with_reducible refine Blk.alloc ?_ _))
  have B2 : Blk (((w.alloc (.cells #[.int .i64 p.k, .int .i64 p.n, .int .i64 p.most, .string p.s, .bool p.is] 38)).alloc (.cells #[.int .i64 0, .int .i64 0, .int .i64 0, .string ⟨#[]⟩, .bool false] 38)).alloc (.cells #[.int .i64 p.k, .int .i64 0, .int .i64 p.most, .string ⟨#[]⟩, .bool false] 38)) (w.heap.size + 2) #[.int .i64 p.k, .int .i64 0, .int .i64 p.most, .string ⟨#[]⟩, .bool false] 38 := by (repeat (first | (with_reducible refine Blk.new' ?_; first | rfl | (simp; done) | (simp; omega)) | with_reducible refine Blk.drew ?_ | with_reducible refine Blk.alloc ?_ _))
  have HB1 := Lib.hid B1
  have HB2 := Lib.hid B2
  have C0 : Ch (· = r) w (((w.alloc (.cells #[.int .i64 p.k, .int .i64 p.n, .int .i64 p.most, .string p.s, .bool p.is] 38)).alloc (.cells #[.int .i64 0, .int .i64 0, .int .i64 0, .string ⟨#[]⟩, .bool false] 38)).alloc (.cells #[.int .i64 p.k, .int .i64 0, .int .i64 p.most, .string ⟨#[]⟩, .bool false] 38)) := by (repeat (first | with_reducible assumption | with_reducible exact Ch.refl _ _ | with_reducible refine Ch.drew ?_ | with_reducible refine Ch.alloc ?_ _ | (with_reducible refine Ch.set' ?_ ?_; focus (first | (right; rfl; done) | (left; simp; done) | (left; simp; omega) | (left; omega) | (right; simp; done) | (right; simp; omega)))))
  have HC0 := Lib.hid C0
  have t0 : (p.k == 0) = true := by simp [hk]
  have HK := Lib.hid hk
  obtain ⟨⟨v, c, e2⟩, hq⟩ : ∃ q, numE e p.most (bs.drop k) = q := ⟨_, rfl⟩
  have hp : partE e (bs.drop k) p = (⟨p.k, v, p.most, bS [], false⟩, c, e2) := by unfold partE; rw [if_pos HK.out, hq]
  have HP := Lib.hid hp
  have HQ := Lib.hid hq
  clear h hb hk B1 B2 C0 hq hp
  go_enter Try.func21, Try.ntmps21
  go_wp2_with fail
  refine HN.out.mono ?_
  intro x w4 hpost
  obtain ⟨rfl, D4, c4⟩ := hpost.at HQ.out
  have HC4 := Lib.hid (HC0.out.trans c4)
  have HD4 := Lib.hid D4
  have BB1 := HB1.out.ch c4 (by omega)
  have BB2 := HB2.out.ch c4 (by omega)
  obtain ⟨q1, q2⟩ := BB1.cells
  obtain ⟨z1, z2⟩ := BB2.cells
  have l1 := BB1.lt
  have l2 := BB2.lt
  clear HN hpost D4 c4 HC0 H HB1 HB2 BB1 BB2
  go_wp2_with fail
  refine bodyPost_ret (v := .agg #[.int .i64 p.k, .int .i64 v, .int .i64 p.most, .string ⟨#[]⟩, .bool false]) (by simp [results, Try.results21, go_sem, q1, z1]) rfl ?_
  have C4 := HC4.out
  exact ReadPost.of HP.out rfl (HD4.out.ch (S := fun b => w.heap.size ≤ b) (by (repeat (first | with_reducible assumption | with_reducible exact Ch.refl _ _ | with_reducible refine Ch.drew ?_ | with_reducible refine Ch.alloc ?_ _ | (with_reducible refine Ch.set' ?_ ?_; focus (first | (right; rfl; done) | (left; simp; done) | (left; simp; omega) | (left; omega) | (right; simp; done) | (right; simp; omega)))))) (by omega) (by omega)) (by (repeat (first | with_reducible assumption | with_reducible exact Ch.refl _ _ | with_reducible refine Ch.drew ?_ | with_reducible refine Ch.alloc ?_ _ | (with_reducible refine Ch.set' ?_ ?_; focus (first | (right; rfl; done) | (left; simp; done) | (left; simp; omega) | (left; omega) | (right; simp; done) | (right; simp; omega))))))

set_option maxRecDepth 100000 in
set_option maxHeartbeats 4000000 in
theorem read_text (r g : Nat) (bs : List Nat) (k : Nat) (e : Int) (p : PartD) (w : World) (h : Rd w r g bs k e) (hb : ∀ b ∈ bs, b < 256) (hlen : bs.length ≤ maxLen) (hk : p.k = 1) :
    Calls Try.prog 21 #[.pointer (some ⟨r, 0, none⟩), .agg #[.int .i64 p.k, .int .i64 p.n, .int .i64 p.most, .string p.s, .bool p.is]] w (ReadPost r g bs k e p w) := by
  have H := Lib.hid (((h.alloc (.cells #[.int .i64 p.k, .int .i64 p.n, .int .i64 p.most, .string p.s, .bool p.is] 38)).alloc (.cells #[.int .i64 0, .int .i64 0, .int .i64 0, .string ⟨#[]⟩, .bool false] 38)).alloc (.cells #[.int .i64 p.k, .int .i64 0, .int .i64 p.most, .string ⟨#[]⟩, .bool false] 38))
  have HN := Lib.hid (rtext_any r g bs k e p.most _ H.out hb hlen)
  obtain ⟨hlt, hgt⟩ := h.lt
  have B1 : Blk (((w.alloc (.cells #[.int .i64 p.k, .int .i64 p.n, .int .i64 p.most, .string p.s, .bool p.is] 38)).alloc (.cells #[.int .i64 0, .int .i64 0, .int .i64 0, .string ⟨#[]⟩, .bool false] 38)).alloc (.cells #[.int .i64 p.k, .int .i64 0, .int .i64 p.most, .string ⟨#[]⟩, .bool false] 38)) (w.heap.size + 1) #[.int .i64 0, .int .i64 0, .int .i64 0, .string ⟨#[]⟩, .bool false] 38 := by (repeat (first | (with_reducible refine Blk.new' ?_; first | rfl | (simp; done) | (simp; omega)) | with_reducible refine Blk.drew ?_ | with_reducible refine Blk.alloc ?_ _))
  have B2 : Blk (((w.alloc (.cells #[.int .i64 p.k, .int .i64 p.n, .int .i64 p.most, .string p.s, .bool p.is] 38)).alloc (.cells #[.int .i64 0, .int .i64 0, .int .i64 0, .string ⟨#[]⟩, .bool false] 38)).alloc (.cells #[.int .i64 p.k, .int .i64 0, .int .i64 p.most, .string ⟨#[]⟩, .bool false] 38)) (w.heap.size + 2) #[.int .i64 p.k, .int .i64 0, .int .i64 p.most, .string ⟨#[]⟩, .bool false] 38 := by (repeat (first | (with_reducible refine Blk.new' ?_; first | rfl | (simp; done) | (simp; omega)) | with_reducible refine Blk.drew ?_ | with_reducible refine Blk.alloc ?_ _))
  have HB1 := Lib.hid B1
  have HB2 := Lib.hid B2
  have C0 : Ch (· = r) w (((w.alloc (.cells #[.int .i64 p.k, .int .i64 p.n, .int .i64 p.most, .string p.s, .bool p.is] 38)).alloc (.cells #[.int .i64 0, .int .i64 0, .int .i64 0, .string ⟨#[]⟩, .bool false] 38)).alloc (.cells #[.int .i64 p.k, .int .i64 0, .int .i64 p.most, .string ⟨#[]⟩, .bool false] 38)) := by (repeat (first | with_reducible assumption | with_reducible exact Ch.refl _ _ | with_reducible refine Ch.drew ?_ | with_reducible refine Ch.alloc ?_ _ | (with_reducible refine Ch.set' ?_ ?_; focus (first | (right; rfl; done) | (left; simp; done) | (left; simp; omega) | (left; omega) | (right; simp; done) | (right; simp; omega)))))
  have HC0 := Lib.hid C0
  have t0 : (p.k == 0) = false := by simp [hk]
  have t1 : (p.k == 1) = true := by simp [hk]
  have HK := Lib.hid hk
  obtain ⟨⟨t, c, e2⟩, hq⟩ : ∃ q, textE e p.most (bs.drop k) = q := ⟨_, rfl⟩
  have hp : partE e (bs.drop k) p = (⟨p.k, 0, p.most, bS t, false⟩, c, e2) := by unfold partE; rw [if_neg (by rw [HK.out]; omega), if_pos HK.out, hq]
  have HP := Lib.hid hp
  have HQ := Lib.hid hq
  clear h hb hk B1 B2 C0 hq hp
  go_enter Try.func21, Try.ntmps21
  go_wp2_with fail
  refine HN.out.mono ?_
  intro x w4 hpost
  obtain ⟨rfl, D4, c4⟩ := hpost.at HQ.out
  have HC4 := Lib.hid (HC0.out.trans c4)
  have HD4 := Lib.hid D4
  have BB1 := HB1.out.ch c4 (by omega)
  have BB2 := HB2.out.ch c4 (by omega)
  obtain ⟨q1, q2⟩ := BB1.cells
  obtain ⟨z1, z2⟩ := BB2.cells
  have l1 := BB1.lt
  have l2 := BB2.lt
  clear HN hpost D4 c4 HC0 H HB1 HB2 BB1 BB2
  go_wp2_with fail
  refine bodyPost_ret (v := .agg #[.int .i64 p.k, .int .i64 0, .int .i64 p.most, .string (bS t), .bool false]) (by simp [results, Try.results21, go_sem, q1, z1]) rfl ?_
  have C4 := HC4.out
  exact ReadPost.of HP.out rfl (HD4.out.ch (S := fun b => w.heap.size ≤ b) (by (repeat (first | with_reducible assumption | with_reducible exact Ch.refl _ _ | with_reducible refine Ch.drew ?_ | with_reducible refine Ch.alloc ?_ _ | (with_reducible refine Ch.set' ?_ ?_; focus (first | (right; rfl; done) | (left; simp; done) | (left; simp; omega) | (left; omega) | (right; simp; done) | (right; simp; omega)))))) (by omega) (by omega)) (by (repeat (first | with_reducible assumption | with_reducible exact Ch.refl _ _ | with_reducible refine Ch.drew ?_ | with_reducible refine Ch.alloc ?_ _ | (with_reducible refine Ch.set' ?_ ?_; focus (first | (right; rfl; done) | (left; simp; done) | (left; simp; omega) | (left; omega) | (right; simp; done) | (right; simp; omega))))))

theorem BoolEPost.at {r g : Nat} {bs : List Nat} {k : Nat} {e : Int} {w w' : World} {x : Ending} (h : BoolEPost r g bs k e w x w') {t : Bool} {c : Nat} {e2 : Int} (hq : boolE e (bs.drop k) = (t, c, e2)) :
    x = .returned (.bool t) ∧ Rd w' r g bs (k + c) e2 ∧ Ch (· = r) w w' := by
  unfold BoolEPost at h
  rw [hq] at h
  exact h

set_option maxRecDepth 100000 in
set_option maxHeartbeats 4000000 in
theorem read_bool (r g : Nat) (bs : List Nat) (k : Nat) (e : Int) (p : PartD) (w : World) (h : Rd w r g bs k e) (hb : ∀ b ∈ bs, b < 256) (hlen : bs.length ≤ maxLen) (hk : p.k = 2) :
    Calls Try.prog 21 #[.pointer (some ⟨r, 0, none⟩), .agg #[.int .i64 p.k, .int .i64 p.n, .int .i64 p.most, .string p.s, .bool p.is]] w (ReadPost r g bs k e p w) := by
  have H := Lib.hid (((h.alloc (.cells #[.int .i64 p.k, .int .i64 p.n, .int .i64 p.most, .string p.s, .bool p.is] 38)).alloc (.cells #[.int .i64 0, .int .i64 0, .int .i64 0, .string ⟨#[]⟩, .bool false] 38)).alloc (.cells #[.int .i64 p.k, .int .i64 0, .int .i64 p.most, .string ⟨#[]⟩, .bool false] 38))
  have HN := Lib.hid (rbool_any r g bs k e _ H.out hlen)
  obtain ⟨hlt, hgt⟩ := h.lt
  have B1 : Blk (((w.alloc (.cells #[.int .i64 p.k, .int .i64 p.n, .int .i64 p.most, .string p.s, .bool p.is] 38)).alloc (.cells #[.int .i64 0, .int .i64 0, .int .i64 0, .string ⟨#[]⟩, .bool false] 38)).alloc (.cells #[.int .i64 p.k, .int .i64 0, .int .i64 p.most, .string ⟨#[]⟩, .bool false] 38)) (w.heap.size + 1) #[.int .i64 0, .int .i64 0, .int .i64 0, .string ⟨#[]⟩, .bool false] 38 := by (repeat (first | (with_reducible refine Blk.new' ?_; first | rfl | (simp; done) | (simp; omega)) | with_reducible refine Blk.drew ?_ | with_reducible refine Blk.alloc ?_ _))
  have B2 : Blk (((w.alloc (.cells #[.int .i64 p.k, .int .i64 p.n, .int .i64 p.most, .string p.s, .bool p.is] 38)).alloc (.cells #[.int .i64 0, .int .i64 0, .int .i64 0, .string ⟨#[]⟩, .bool false] 38)).alloc (.cells #[.int .i64 p.k, .int .i64 0, .int .i64 p.most, .string ⟨#[]⟩, .bool false] 38)) (w.heap.size + 2) #[.int .i64 p.k, .int .i64 0, .int .i64 p.most, .string ⟨#[]⟩, .bool false] 38 := by (repeat (first | (with_reducible refine Blk.new' ?_; first | rfl | (simp; done) | (simp; omega)) | with_reducible refine Blk.drew ?_ | with_reducible refine Blk.alloc ?_ _))
  have HB1 := Lib.hid B1
  have HB2 := Lib.hid B2
  have C0 : Ch (· = r) w (((w.alloc (.cells #[.int .i64 p.k, .int .i64 p.n, .int .i64 p.most, .string p.s, .bool p.is] 38)).alloc (.cells #[.int .i64 0, .int .i64 0, .int .i64 0, .string ⟨#[]⟩, .bool false] 38)).alloc (.cells #[.int .i64 p.k, .int .i64 0, .int .i64 p.most, .string ⟨#[]⟩, .bool false] 38)) := by (repeat (first | with_reducible assumption | with_reducible exact Ch.refl _ _ | with_reducible refine Ch.drew ?_ | with_reducible refine Ch.alloc ?_ _ | (with_reducible refine Ch.set' ?_ ?_; focus (first | (right; rfl; done) | (left; simp; done) | (left; simp; omega) | (left; omega) | (right; simp; done) | (right; simp; omega)))))
  have HC0 := Lib.hid C0
  have t0 : (p.k == 0) = false := by simp [hk]
  have t1 : (p.k == 1) = false := by simp [hk]
  have t2 : (p.k == 2) = true := by simp [hk]
  have HK := Lib.hid hk
  obtain ⟨⟨t, c, e2⟩, hq⟩ : ∃ q, boolE e (bs.drop k) = q := ⟨_, rfl⟩
  have hp : partE e (bs.drop k) p = (⟨p.k, 0, p.most, bS [], t⟩, c, e2) := by unfold partE; rw [if_neg (by rw [HK.out]; omega), if_neg (by rw [HK.out]; omega), if_pos HK.out, hq]
  have HP := Lib.hid hp
  have HQ := Lib.hid hq
  clear h hb hk B1 B2 C0 hq hp
  go_enter Try.func21, Try.ntmps21
  go_wp2_with fail
  refine HN.out.mono ?_
  intro x w4 hpost
  obtain ⟨rfl, D4, c4⟩ := hpost.at HQ.out
  have HC4 := Lib.hid (HC0.out.trans c4)
  have HD4 := Lib.hid D4
  have BB1 := HB1.out.ch c4 (by omega)
  have BB2 := HB2.out.ch c4 (by omega)
  obtain ⟨q1, q2⟩ := BB1.cells
  obtain ⟨z1, z2⟩ := BB2.cells
  have l1 := BB1.lt
  have l2 := BB2.lt
  clear HN hpost D4 c4 HC0 H HB1 HB2 BB1 BB2
  go_wp2_with fail
  refine bodyPost_ret (v := .agg #[.int .i64 p.k, .int .i64 0, .int .i64 p.most, .string ⟨#[]⟩, .bool t]) (by simp [results, Try.results21, go_sem, q1, z1]) rfl ?_
  have C4 := HC4.out
  exact ReadPost.of HP.out rfl (HD4.out.ch (S := fun b => w.heap.size ≤ b) (by (repeat (first | with_reducible assumption | with_reducible exact Ch.refl _ _ | with_reducible refine Ch.drew ?_ | with_reducible refine Ch.alloc ?_ _ | (with_reducible refine Ch.set' ?_ ?_; focus (first | (right; rfl; done) | (left; simp; done) | (left; simp; omega) | (left; omega) | (right; simp; done) | (right; simp; omega)))))) (by omega) (by omega)) (by (repeat (first | with_reducible assumption | with_reducible exact Ch.refl _ _ | with_reducible refine Ch.drew ?_ | with_reducible refine Ch.alloc ?_ _ | (with_reducible refine Ch.set' ?_ ?_; focus (first | (right; rfl; done) | (left; simp; done) | (left; simp; omega) | (left; omega) | (right; simp; done) | (right; simp; omega))))))

/-- 'read', of any part. -/
theorem part_any (r g : Nat) (bs : List Nat) (k : Nat) (e : Int) (p : PartD) (w : World) (h : Rd w r g bs k e) (hb : ∀ b ∈ bs, b < 256) (hlen : bs.length ≤ maxLen) :
    Calls Try.prog 21 #[.pointer (some ⟨r, 0, none⟩), .agg #[.int .i64 p.k, .int .i64 p.n, .int .i64 p.most, .string p.s, .bool p.is]] w (ReadPost r g bs k e p w) := by
  by_cases h0 : p.k = 0
  · exact read_num r g bs k e p w h hb hlen h0
  by_cases h1 : p.k = 1
  · exact read_text r g bs k e p w h hb hlen h1
  by_cases h2 : p.k = 2
  · exact read_bool r g bs k e p w h hb hlen h2
  exact read_none r g bs k e p w h h0 h1 h2
end Go.Proofs.Ytlombcclglffgaa
