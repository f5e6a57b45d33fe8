/- The contract of 'does' of the session laws: the walks. -/
import Derived.Test.YtjilfmphdncapaaSesDoes
set_option linter.unusedVariables false
set_option linter.unusedSimpArgs false
namespace Go.Proofs.Ytjilfmphdncapaa
open Go.RowKit

/-- What 'does' leaves. -/
def DoesPost (base : Nat) (v : Value) (bs : List Nat) (r : List Sn × AnsD) (w : World) (e : Ending) (w' : World) : Prop :=
  ∃ v' bs', bs <+: bs' ∧ e = .returned (.tuple #[v', .agg r.2.cells]) ∧ SesRow w' base v' bs' r.1 ∧ Ch (fun k => k ∈ bs ∨ v.ownBlock = some k) w w'

abbrev doesStart (w : World) (o : OpD) : World := ((w.alloc (.cells o.cells 39)).alloc (.cells #[.int .i64 0, .int .i64 0, .int .i64 0] 43)).alloc (.cells #[.int .i64 0, .int .i64 0, .int .i64 0] 43)

theorem doesStart_below (w : World) (o : OpD) : Below w.heap.size w (doesStart w o) := Ch.below (by (repeat (first | with_reducible assumption | with_reducible exact Ch.refl _ _ | with_reducible refine Ch.drew ?_ | with_reducible refine Ch.alloc ?_ _ | (with_reducible refine Ch.set' ?_ ?_; focus (first | (right; rfl; done) | (left; simp; done) | (left; simp; omega) | (left; omega) | (right; simp; done) | (right; simp; omega))))))

theorem doesStart_boxes (w : World) (o : OpD) : Blk (doesStart w o) (w.heap.size + 1) #[.int .i64 0, .int .i64 0, .int .i64 0] 43 ∧ Blk (doesStart w o) (w.heap.size + 1 + 1) #[.int .i64 0, .int .i64 0, .int .i64 0] 43 :=
  ⟨by (repeat (first | (with_reducible refine Blk.new' ?_; first | rfl | (simp; done) | (simp; omega)) | with_reducible refine Blk.drew ?_ | with_reducible refine Blk.alloc ?_ _)), by (repeat (first | (with_reducible refine Blk.new' ?_; first | rfl | (simp; done) | (simp; omega)) | with_reducible refine Blk.drew ?_ | with_reducible refine Blk.alloc ?_ _))⟩

theorem doesStart_box (w : World) (o : OpD) : Blk (doesStart w o) w.heap.size o.cells 39 := by (repeat (first | (with_reducible refine Blk.new' ?_; first | rfl | (simp; done) | (simp; omega)) | with_reducible refine Blk.drew ?_ | with_reducible refine Blk.alloc ?_ _))

/-- The blocks of a row and of its sessions lie below the world's end. -/
theorem SesRow.lts {w : World} {base : Nat} {v : Value} {bs : List Nat} {sts : List Sn} (h : SesRow w base v bs sts) : (∀ b ∈ bs, b < w.heap.size) ∧ (∀ g, v.ownBlock = some g → g < w.heap.size) := by
  refine ⟨fun b hb => ?_, fun g hg => (h.own.lt g hg).2⟩
  obtain ⟨i, hi, rfl⟩ := List.getElem_of_mem hb
  have hi2 : i < sts.length := by rw [← h.len]; exact hi
  exact Blk.lt (h.ses i _ _ (List.getElem?_eq_getElem hi) (List.getElem?_eq_getElem hi2))

/-- Behind stores into the call's own three boxes. -/
theorem SesRow.tail {w w4 w' : World} {base : Nat} {v v0 : Value} {bs bs0 : List Nat} {sts sts0 : List Sn} (R : SesRow w4 base v bs sts) (h : SesRow w base v0 bs0 sts0) (hbs : ∀ b ∈ bs, b ∈ bs0 ∨ w.heap.size + 2 < b) (hv : ∀ g, v.ownBlock = some g → v0.ownBlock = some g ∨ w.heap.size + 2 < g)
    (hc : Ch (fun k => w.heap.size ≤ k ∧ k ≤ w.heap.size + 2) w4 w') : SesRow w' base v bs sts :=
  R.ch hc (fun b hb e => by
    obtain ⟨h1, h2⟩ := h.lts
    rcases hbs b hb with h3 | h3
    · have := h1 b h3; omega
    · omega) (fun g hg e => by
    obtain ⟨h1, h2⟩ := h.lts
    rcases hv g hg with h3 | h3
    · have := h2 g h3; omega
    · omega)

/-- No session: whoever is asked is none. -/
theorem doF_none {l : List Sn} {o : OpD} (h : o.who < 0 ∨ (l.length : Int) ≤ o.who) : doF l o = (l, ⟨0, 0, 0⟩) := by
  unfold doF
  by_cases h0 : 0 ≤ o.who
  · rw [if_pos h0]
    have : l[o.who.toNat]? = none := List.getElem?_eq_none (by omega)
    rw [this]
  · rw [if_neg h0]

set_option maxRecDepth 100000 in
theorem does_none (base : Nat) (v : Value) (bs : List Nat) (sts : List Sn) (o : OpD) (w : World) (h : SesRow w base v bs sts) (h0 : o.who < 0 ∨ (sts.length : Int) ≤ o.who) (hl : sts.length ≤ 1000) :
    Calls Try.prog 14 #[v, .agg o.cells] w (DoesPost base v bs (doF sts o) w) := by
  rw [doF_none h0]
  have hv : ∃ a c, v = .slice a bs.length c := by
    rcases h.own.2 with ⟨rfl, h1⟩ | ⟨g, cap, cur, hv, _⟩
    · exact ⟨none, 0, by rw [h1]⟩
    · exact ⟨_, _, hv⟩
  obtain ⟨a, c, rfl⟩ := hv
  obtain ⟨ok, who, ox, oa1, oa2⟩ := o
  simp only [OpD.cells] at *
  have hlen := h.len
  rw [← hlen] at h0 hl
  clear hlen
  have HW := Lib.hid h
  clear h
  by_cases hneg : who < 0
  · have h1 : decide (who < 0) = true := by simpa using hneg
    clear h0 hneg
    go_enter Try.func14, Try.ntmps14
    go_wp2_with fail
    go_region
    all_goals
      go_wp2
      exact bodyPost_ret (v := .tuple #[.slice a bs.length c, .agg #[.int .i64 0, .int .i64 0, .int .i64 0]]) (by simp [results, Try.results14, go_sem]) rfl ⟨_, bs, List.prefix_rfl, rfl, HW.out.below (Ch.below (by (repeat (first | with_reducible assumption | with_reducible exact Ch.refl _ _ | with_reducible refine Ch.drew ?_ | with_reducible refine Ch.alloc ?_ _ | (with_reducible refine Ch.set' ?_ ?_; focus (first | (right; rfl; done) | (left; simp; done) | (left; simp; omega) | (left; omega) | (right; simp; done) | (right; simp; omega))))))), by (repeat (first | with_reducible assumption | with_reducible exact Ch.refl _ _ | with_reducible refine Ch.drew ?_ | with_reducible refine Ch.alloc ?_ _ | (with_reducible refine Ch.set' ?_ ?_; focus (first | (right; rfl; done) | (left; simp; done) | (left; simp; omega) | (left; omega) | (right; simp; done) | (right; simp; omega)))))⟩
  · have h1 : decide (who < 0) = false := by simpa using hneg
    have h2 : decide ((bs.length : Int) ≤ who) = true := by simp; omega
    clear h0 hneg
    go_enter Try.func14, Try.ntmps14
    go_wp2_with fail
    go_region
    all_goals
      go_wp2
      exact bodyPost_ret (v := .tuple #[.slice a bs.length c, .agg #[.int .i64 0, .int .i64 0, .int .i64 0]]) (by simp [results, Try.results14, go_sem]) rfl ⟨_, bs, List.prefix_rfl, rfl, HW.out.below (Ch.below (by (repeat (first | with_reducible assumption | with_reducible exact Ch.refl _ _ | with_reducible refine Ch.drew ?_ | with_reducible refine Ch.alloc ?_ _ | (with_reducible refine Ch.set' ?_ ?_; focus (first | (right; rfl; done) | (left; simp; done) | (left; simp; omega) | (left; omega) | (right; simp; done) | (right; simp; omega))))))), by (repeat (first | with_reducible assumption | with_reducible exact Ch.refl _ _ | with_reducible refine Ch.drew ?_ | with_reducible refine Ch.alloc ?_ _ | (with_reducible refine Ch.set' ?_ ?_; focus (first | (right; rfl; done) | (left; simp; done) | (left; simp; omega) | (left; omega) | (right; simp; done) | (right; simp; omega)))))⟩

set_option maxHeartbeats 1000000 in
set_option maxHeartbeats 1000000 in
set_option maxRecDepth 100000 in
theorem does_read (base : Nat) (v : Value) (bs : List Nat) (sts : List Sn) (i : Nat) (s : Sn) (x a1 a2 : Int) (w : World) (h : SesRow w base v bs sts) (hi : sts[i]? = some s) (hl : sts.length ≤ 1000) :
    Calls Try.prog 14 #[v, .agg #[.int .i64 0, .int .i64 i, .int .i64 x, .int .i64 a1, .int .i64 a2]] w (DoesPost base v bs (sts.set i ⟨s.c, s.m, readT s.t s.n a1 a2, readN s.t s.n a1 a2⟩, ⟨readE s.t s.n a1 a2, 0, 0⟩) w) := by
  obtain ⟨g, cap, b, rfl, hg, hbg, hb, hcell, hs, hown, hne⟩ := h.at hi
  have hlt : i < bs.length := by rw [h.len]; exact (List.getElem?_eq_some_iff.1 hi).1
  have hl' : bs.length ≤ 1000 := by rw [h.len]; exact hl
  have hbw := Blk.lt hs
  have hg1 : g < w.heap.size + 1 := by omega
  have hg2 : g < w.heap.size + 1 + 1 := by omega
  have h1 : decide ((i : Int) < 0) = false := by simp
  have h2 : decide (bs.length ≤ i) = false := by simp; omega
  have HW := Lib.hid h
  have HD := Lib.hid (h.below (doesStart_below w ⟨0, i, x, a1, a2⟩))
  have HS := Lib.hid (Blk.below hs (doesStart_below w ⟨0, i, x, a1, a2⟩))
  have HB := Lib.hid hb
  clear h hs hb hl hi
  go_enter Try.func14, Try.ntmps14
  go_wp2_with fail
  refine (read_any b s.c s.m s.t s.n a1 a2 _ HS.out).mono ?_
  rintro e w4 ⟨rfl, S4, c4⟩
  have B1 := (doesStart_boxes w ⟨0, i, x, a1, a2⟩).1.ch c4 (by omega)
  have B2 := (doesStart_boxes w ⟨0, i, x, a1, a2⟩).2.ch c4 (by omega)
  have C4 := (Ch.of_below (fun k => k ∈ bs ∨ k = g) (doesStart_below w ⟨0, i, x, a1, a2⟩)).step c4 (fun k hk e => by rw [e]; exact .inl (List.mem_of_getElem? HB.out))
  have R4 := Lib.hid (HD.out.set (s := ⟨s.c, s.m, readT s.t s.n a1 a2, readN s.t s.n a1 a2⟩) HB.out S4 c4 (by rw [hown]; simpa using Ne.symm hne))
  obtain ⟨q1, q2⟩ := B1.cells
  obtain ⟨q3, q4⟩ := B2.cells
  have l1 := B1.lt
  have l2 := B2.lt
  clear S4 c4 B1 B2 HS HD
  go_wp2_with fail
  go_region
  all_goals
    go_wp2
    refine bodyPost_ret (v := .tuple #[.slice (some ⟨g, 0, none⟩) bs.length cap, .agg #[.int .i64 (readE s.t s.n a1 a2), .int .i64 0, .int .i64 0]]) (by simp [results, Try.results14, go_sem, q1, q3]) rfl ⟨_, bs, List.prefix_rfl, rfl, ?_, ?_⟩
    · exact R4.out.tail HW.out (fun b hb => .inl hb) (fun g hg => .inl hg) (by (repeat (first | with_reducible assumption | with_reducible exact Ch.refl _ _ | with_reducible refine Ch.drew ?_ | with_reducible refine Ch.alloc ?_ _ | (with_reducible refine Ch.set' ?_ ?_; focus (first | (right; rfl; done) | (left; simp; done) | (left; simp; omega) | (left; omega) | (right; simp; done) | (right; simp; omega))))))
    · refine Ch.mono (S := fun k => k ∈ bs ∨ k = g) ?_ (fun k hk => by simpa [Value.ownBlock, eq_comm] using hk)
      (repeat (first | with_reducible assumption | with_reducible exact Ch.refl _ _ | with_reducible refine Ch.drew ?_ | with_reducible refine Ch.alloc ?_ _ | (with_reducible refine Ch.set' ?_ ?_; focus (first | (right; rfl; done) | (left; simp; done) | (left; simp; omega) | (left; omega) | (right; simp; done) | (right; simp; omega)))))

set_option maxHeartbeats 1000000 in
set_option maxRecDepth 100000 in
theorem does_wrote (base : Nat) (v : Value) (bs : List Nat) (sts : List Sn) (i : Nat) (s : Sn) (x a1 a2 : Int) (w : World) (h : SesRow w base v bs sts) (hi : sts[i]? = some s) (hl : sts.length ≤ 1000) :
    Calls Try.prog 14 #[v, .agg #[.int .i64 1, .int .i64 i, .int .i64 x, .int .i64 a1, .int .i64 a2]] w (DoesPost base v bs (sts.set i ⟨s.c, s.m, wroteT s.t s.n a1 a2, wroteN s.t s.n a1 a2⟩, ⟨wroteE a1 a2, 0, 0⟩) w) := by
  obtain ⟨g, cap, b, rfl, hg, hbg, hb, hcell, hs, hown, hne⟩ := h.at hi
  have hlt : i < bs.length := by rw [h.len]; exact (List.getElem?_eq_some_iff.1 hi).1
  have hl' : bs.length ≤ 1000 := by rw [h.len]; exact hl
  have hbw := Blk.lt hs
  have hg1 : g < w.heap.size + 1 := by omega
  have hg2 : g < w.heap.size + 1 + 1 := by omega
  have h1 : decide ((i : Int) < 0) = false := by simp
  have h2 : decide (bs.length ≤ i) = false := by simp; omega
  have HW := Lib.hid h
  have HD := Lib.hid (h.below (doesStart_below w ⟨1, i, x, a1, a2⟩))
  have HS := Lib.hid (Blk.below hs (doesStart_below w ⟨1, i, x, a1, a2⟩))
  have HB := Lib.hid hb
  clear h hs hb hl hi
  go_enter Try.func14, Try.ntmps14
  go_wp2_with fail
  refine (wrote_any b s.c s.m s.t s.n a1 a2 _ HS.out).mono ?_
  rintro e w4 ⟨rfl, S4, c4⟩
  have B1 := (doesStart_boxes w ⟨1, i, x, a1, a2⟩).1.ch c4 (by omega)
  have B2 := (doesStart_boxes w ⟨1, i, x, a1, a2⟩).2.ch c4 (by omega)
  have C4 := (Ch.of_below (fun k => k ∈ bs ∨ k = g) (doesStart_below w ⟨1, i, x, a1, a2⟩)).step c4 (fun k hk e => by rw [e]; exact .inl (List.mem_of_getElem? HB.out))
  have R4 := Lib.hid (HD.out.set (s := ⟨s.c, s.m, wroteT s.t s.n a1 a2, wroteN s.t s.n a1 a2⟩) HB.out S4 c4 (by rw [hown]; simpa using Ne.symm hne))
  obtain ⟨q1, q2⟩ := B1.cells
  obtain ⟨q3, q4⟩ := B2.cells
  have l1 := B1.lt
  have l2 := B2.lt
  clear S4 c4 B1 B2 HS HD
  go_wp2_with fail
  go_region
  all_goals
    go_wp2
    refine bodyPost_ret (v := .tuple #[.slice (some ⟨g, 0, none⟩) bs.length cap, .agg #[.int .i64 (wroteE a1 a2), .int .i64 0, .int .i64 0]]) (by simp [results, Try.results14, go_sem, q1, q3]) rfl ⟨_, bs, List.prefix_rfl, rfl, ?_, ?_⟩
    · exact R4.out.tail HW.out (fun b hb => .inl hb) (fun g hg => .inl hg) (by (repeat (first | with_reducible assumption | with_reducible exact Ch.refl _ _ | with_reducible refine Ch.drew ?_ | with_reducible refine Ch.alloc ?_ _ | (with_reducible refine Ch.set' ?_ ?_; focus (first | (right; rfl; done) | (left; simp; done) | (left; simp; omega) | (left; omega) | (right; simp; done) | (right; simp; omega))))))
    · refine Ch.mono (S := fun k => k ∈ bs ∨ k = g) ?_ (fun k hk => by simpa [Value.ownBlock, eq_comm] using hk)
      (repeat (first | with_reducible assumption | with_reducible exact Ch.refl _ _ | with_reducible refine Ch.drew ?_ | with_reducible refine Ch.alloc ?_ _ | (with_reducible refine Ch.set' ?_ ?_; focus (first | (right; rfl; done) | (left; simp; done) | (left; simp; omega) | (left; omega) | (right; simp; done) | (right; simp; omega)))))

set_option maxHeartbeats 1000000 in
set_option maxRecDepth 100000 in
theorem does_id (base : Nat) (v : Value) (bs : List Nat) (sts : List Sn) (i : Nat) (s : Sn) (x a1 a2 : Int) (w : World) (h : SesRow w base v bs sts) (hi : sts[i]? = some s) (hl : sts.length ≤ 1000) (hm0 : 0 ≤ s.m) (hm1 : s.m < 1099511627776) :
    Calls Try.prog 14 #[v, .agg #[.int .i64 2, .int .i64 i, .int .i64 x, .int .i64 a1, .int .i64 a2]] w (DoesPost base v bs (sts.set i ⟨s.c, s.m + 1, s.t, s.n⟩, ⟨0, s.c, s.m⟩) w) := by
  obtain ⟨g, cap, b, rfl, hg, hbg, hb, hcell, hs, hown, hne⟩ := h.at hi
  have hlt : i < bs.length := by rw [h.len]; exact (List.getElem?_eq_some_iff.1 hi).1
  have hl' : bs.length ≤ 1000 := by rw [h.len]; exact hl
  have hbw := Blk.lt hs
  have hg1 : g < w.heap.size + 1 := by omega
  have hg2 : g < w.heap.size + 1 + 1 := by omega
  have h1 : decide ((i : Int) < 0) = false := by simp
  have h2 : decide (bs.length ≤ i) = false := by simp; omega
  have HW := Lib.hid h
  have HD := Lib.hid (h.below (doesStart_below w ⟨2, i, x, a1, a2⟩))
  have HS := Lib.hid (Blk.below hs (doesStart_below w ⟨2, i, x, a1, a2⟩))
  have HB := Lib.hid hb
  clear h hs hb hl hi
  go_enter Try.func14, Try.ntmps14
  go_wp2_with fail
  refine (id_any b s.c s.m s.t s.n _ HS.out hm0 hm1).mono ?_
  rintro e w4 ⟨rfl, S4, c4⟩
  have B1 := (doesStart_boxes w ⟨2, i, x, a1, a2⟩).1.ch c4 (by omega)
  have B2 := (doesStart_boxes w ⟨2, i, x, a1, a2⟩).2.ch c4 (by omega)
  have C4 := (Ch.of_below (fun k => k ∈ bs ∨ k = g) (doesStart_below w ⟨2, i, x, a1, a2⟩)).step c4 (fun k hk e => by rw [e]; exact .inl (List.mem_of_getElem? HB.out))
  have R4 := Lib.hid (HD.out.set (s := ⟨s.c, s.m + 1, s.t, s.n⟩) HB.out S4 c4 (by rw [hown]; simpa using Ne.symm hne))
  obtain ⟨q1, q2⟩ := B1.cells
  obtain ⟨q3, q4⟩ := B2.cells
  have l1 := B1.lt
  have l2 := B2.lt
  clear S4 c4 B1 B2 HS HD
  go_wp2_with fail
  go_region
  all_goals
    go_wp2
    refine bodyPost_ret (v := .tuple #[.slice (some ⟨g, 0, none⟩) bs.length cap, .agg #[.int .i64 0, .int .i64 s.c, .int .i64 s.m]]) (by simp [results, Try.results14, go_sem, q1, q3]) rfl ⟨_, bs, List.prefix_rfl, rfl, ?_, ?_⟩
    · exact R4.out.tail HW.out (fun b hb => .inl hb) (fun g hg => .inl hg) (by (repeat (first | with_reducible assumption | with_reducible exact Ch.refl _ _ | with_reducible refine Ch.drew ?_ | with_reducible refine Ch.alloc ?_ _ | (with_reducible refine Ch.set' ?_ ?_; focus (first | (right; rfl; done) | (left; simp; done) | (left; simp; omega) | (left; omega) | (right; simp; done) | (right; simp; omega))))))
    · refine Ch.mono (S := fun k => k ∈ bs ∨ k = g) ?_ (fun k hk => by simpa [Value.ownBlock, eq_comm] using hk)
      (repeat (first | with_reducible assumption | with_reducible exact Ch.refl _ _ | with_reducible refine Ch.drew ?_ | with_reducible refine Ch.alloc ?_ _ | (with_reducible refine Ch.set' ?_ ?_; focus (first | (right; rfl; done) | (left; simp; done) | (left; simp; omega) | (left; omega) | (right; simp; done) | (right; simp; omega)))))

set_option maxHeartbeats 1000000 in
set_option maxRecDepth 100000 in
theorem does_join (base : Nat) (v : Value) (bs : List Nat) (sts : List Sn) (i : Nat) (s : Sn) (j : Nat) (s2 : Sn) (x a1 a2 : Int) (w : World) (h : SesRow w base v bs sts) (hi : sts[i]? = some s) (hl : sts.length ≤ 1000) (hj : sts[j]? = some s2) (hx : x = (j : Int)) :
    Calls Try.prog 14 #[v, .agg #[.int .i64 4, .int .i64 i, .int .i64 x, .int .i64 a1, .int .i64 a2]] w (DoesPost base v bs (sts.set i ⟨s.c, s.m, maxT s.t s.n s2.t s2.n, maxN s.t s.n s2.t s2.n⟩, ⟨0, 0, 0⟩) w) := by
  obtain ⟨g, cap, b, rfl, hg, hbg, hb, hcell, hs, hown, hne⟩ := h.at hi
  have hlt : i < bs.length := by rw [h.len]; exact (List.getElem?_eq_some_iff.1 hi).1
  have hl' : bs.length ≤ 1000 := by rw [h.len]; exact hl
  have hbw := Blk.lt hs
  have hg1 : g < w.heap.size + 1 := by omega
  have hg2 : g < w.heap.size + 1 + 1 := by omega
  have h1 : decide ((i : Int) < 0) = false := by simp
  have h2 : decide (bs.length ≤ i) = false := by simp; omega
  have HW := Lib.hid h
  have HD := Lib.hid (h.below (doesStart_below w ⟨4, i, j, a1, a2⟩))
  have HS := Lib.hid (Blk.below hs (doesStart_below w ⟨4, i, j, a1, a2⟩))
  have HB := Lib.hid hb
  subst hx
  obtain ⟨g', cap', b2, he, _, _, _, hcell2, hs2, _, _⟩ := h.at hj
  obtain ⟨rfl, rfl⟩ : g = g' ∧ cap = cap' := by simpa using he
  have hlj : j < bs.length := by rw [h.len]; exact (List.getElem?_eq_some_iff.1 hj).1
  have hj1 : decide ((0 : Int) ≤ (j : Int)) = true := by simp
  have hj2 : decide (j < bs.length) = true := by simpa using hlj
  have HS2 := Lib.hid (Blk.below hs2 (doesStart_below w ⟨4, i, j, a1, a2⟩))
  clear he hs2 hj
  clear h hs hb hl hi
  go_enter Try.func14, Try.ntmps14
  go_wp2_with fail
  refine (join_any b b2 s.c s.m s.t s.n s2.c s2.m s2.t s2.n _ HS.out HS2.out).mono ?_
  rintro e w4 ⟨rfl, S4, c4⟩
  have B1 := (doesStart_boxes w ⟨4, i, j, a1, a2⟩).1.ch c4 (by omega)
  have B2 := (doesStart_boxes w ⟨4, i, j, a1, a2⟩).2.ch c4 (by omega)
  have C4 := (Ch.of_below (fun k => k ∈ bs ∨ k = g) (doesStart_below w ⟨4, i, j, a1, a2⟩)).step c4 (fun k hk e => by rw [e]; exact .inl (List.mem_of_getElem? HB.out))
  have R4 := Lib.hid (HD.out.set (s := ⟨s.c, s.m, maxT s.t s.n s2.t s2.n, maxN s.t s.n s2.t s2.n⟩) HB.out S4 c4 (by rw [hown]; simpa using Ne.symm hne))
  obtain ⟨q1, q2⟩ := B1.cells
  obtain ⟨q3, q4⟩ := B2.cells
  have l1 := B1.lt
  have l2 := B2.lt
  clear S4 c4 B1 B2 HS HD
  clear HS2
  go_wp2_with fail
  go_region
  all_goals
    go_wp2
    refine bodyPost_ret (v := .tuple #[.slice (some ⟨g, 0, none⟩) bs.length cap, .agg #[.int .i64 0, .int .i64 0, .int .i64 0]]) (by simp [results, Try.results14, go_sem, q1, q3]) rfl ⟨_, bs, List.prefix_rfl, rfl, ?_, ?_⟩
    · exact R4.out.tail HW.out (fun b hb => .inl hb) (fun g hg => .inl hg) (by (repeat (first | with_reducible assumption | with_reducible exact Ch.refl _ _ | with_reducible refine Ch.drew ?_ | with_reducible refine Ch.alloc ?_ _ | (with_reducible refine Ch.set' ?_ ?_; focus (first | (right; rfl; done) | (left; simp; done) | (left; simp; omega) | (left; omega) | (right; simp; done) | (right; simp; omega))))))
    · refine Ch.mono (S := fun k => k ∈ bs ∨ k = g) ?_ (fun k hk => by simpa [Value.ownBlock, eq_comm] using hk)
      (repeat (first | with_reducible assumption | with_reducible exact Ch.refl _ _ | with_reducible refine Ch.drew ?_ | with_reducible refine Ch.alloc ?_ _ | (with_reducible refine Ch.set' ?_ ?_; focus (first | (right; rfl; done) | (left; simp; done) | (left; simp; omega) | (left; omega) | (right; simp; done) | (right; simp; omega)))))

set_option maxHeartbeats 1000000 in
set_option maxRecDepth 100000 in
theorem does_join_neg (base : Nat) (v : Value) (bs : List Nat) (sts : List Sn) (i : Nat) (s : Sn) (x a1 a2 : Int) (w : World) (h : SesRow w base v bs sts) (hi : sts[i]? = some s) (hl : sts.length ≤ 1000) (hx : x < 0) :
    Calls Try.prog 14 #[v, .agg #[.int .i64 4, .int .i64 i, .int .i64 x, .int .i64 a1, .int .i64 a2]] w (DoesPost base v bs (sts, ⟨0, 0, 0⟩) w) := by
  obtain ⟨g, cap, b, rfl, hg, hbg, hb, hcell, hs, hown, hne⟩ := h.at hi
  have hlt : i < bs.length := by rw [h.len]; exact (List.getElem?_eq_some_iff.1 hi).1
  have hl' : bs.length ≤ 1000 := by rw [h.len]; exact hl
  have hbw := Blk.lt hs
  have hg1 : g < w.heap.size + 1 := by omega
  have hg2 : g < w.heap.size + 1 + 1 := by omega
  have h1 : decide ((i : Int) < 0) = false := by simp
  have h2 : decide (bs.length ≤ i) = false := by simp; omega
  have HW := Lib.hid h
  have HD := Lib.hid (h.below (doesStart_below w ⟨4, i, x, a1, a2⟩))
  have HS := Lib.hid (Blk.below hs (doesStart_below w ⟨4, i, x, a1, a2⟩))
  have HB := Lib.hid hb
  have hj1 : decide ((0 : Int) ≤ x) = false := by simpa using hx
  clear hx
  clear h hs hb hl hi
  go_enter Try.func14, Try.ntmps14
  go_wp2_with fail
  go_region
  all_goals
    go_wp2
    exact bodyPost_ret (v := .tuple #[.slice (some ⟨g, 0, none⟩) bs.length cap, .agg #[.int .i64 0, .int .i64 0, .int .i64 0]]) (by simp [results, Try.results14, go_sem]) rfl ⟨_, bs, List.prefix_rfl, rfl, HW.out.below (Ch.below (by (repeat (first | with_reducible assumption | with_reducible exact Ch.refl _ _ | with_reducible refine Ch.drew ?_ | with_reducible refine Ch.alloc ?_ _ | (with_reducible refine Ch.set' ?_ ?_; focus (first | (right; rfl; done) | (left; simp; done) | (left; simp; omega) | (left; omega) | (right; simp; done) | (right; simp; omega))))))), by (repeat (first | with_reducible assumption | with_reducible exact Ch.refl _ _ | with_reducible refine Ch.drew ?_ | with_reducible refine Ch.alloc ?_ _ | (with_reducible refine Ch.set' ?_ ?_; focus (first | (right; rfl; done) | (left; simp; done) | (left; simp; omega) | (left; omega) | (right; simp; done) | (right; simp; omega)))))⟩

set_option maxHeartbeats 1000000 in
set_option maxRecDepth 100000 in
theorem does_join_out (base : Nat) (v : Value) (bs : List Nat) (sts : List Sn) (i : Nat) (s : Sn) (x a1 a2 : Int) (w : World) (h : SesRow w base v bs sts) (hi : sts[i]? = some s) (hl : sts.length ≤ 1000) (hx : (sts.length : Int) ≤ x) :
    Calls Try.prog 14 #[v, .agg #[.int .i64 4, .int .i64 i, .int .i64 x, .int .i64 a1, .int .i64 a2]] w (DoesPost base v bs (sts, ⟨0, 0, 0⟩) w) := by
  obtain ⟨g, cap, b, rfl, hg, hbg, hb, hcell, hs, hown, hne⟩ := h.at hi
  have hlt : i < bs.length := by rw [h.len]; exact (List.getElem?_eq_some_iff.1 hi).1
  have hl' : bs.length ≤ 1000 := by rw [h.len]; exact hl
  have hbw := Blk.lt hs
  have hg1 : g < w.heap.size + 1 := by omega
  have hg2 : g < w.heap.size + 1 + 1 := by omega
  have h1 : decide ((i : Int) < 0) = false := by simp
  have h2 : decide (bs.length ≤ i) = false := by simp; omega
  have HW := Lib.hid h
  have HD := Lib.hid (h.below (doesStart_below w ⟨4, i, x, a1, a2⟩))
  have HS := Lib.hid (Blk.below hs (doesStart_below w ⟨4, i, x, a1, a2⟩))
  have HB := Lib.hid hb
  have hj1 : decide ((0 : Int) ≤ x) = true := by simp; omega
  have hj2 : decide (x < (bs.length : Int)) = false := by rw [h.len]; simpa using hx
  clear hx
  clear h hs hb hl hi
  go_enter Try.func14, Try.ntmps14
  go_wp2_with fail
  go_region
  all_goals
    go_wp2
    exact bodyPost_ret (v := .tuple #[.slice (some ⟨g, 0, none⟩) bs.length cap, .agg #[.int .i64 0, .int .i64 0, .int .i64 0]]) (by simp [results, Try.results14, go_sem]) rfl ⟨_, bs, List.prefix_rfl, rfl, HW.out.below (Ch.below (by (repeat (first | with_reducible assumption | with_reducible exact Ch.refl _ _ | with_reducible refine Ch.drew ?_ | with_reducible refine Ch.alloc ?_ _ | (with_reducible refine Ch.set' ?_ ?_; focus (first | (right; rfl; done) | (left; simp; done) | (left; simp; omega) | (left; omega) | (right; simp; done) | (right; simp; omega))))))), by (repeat (first | with_reducible assumption | with_reducible exact Ch.refl _ _ | with_reducible refine Ch.drew ?_ | with_reducible refine Ch.alloc ?_ _ | (with_reducible refine Ch.set' ?_ ?_; focus (first | (right; rfl; done) | (left; simp; done) | (left; simp; omega) | (left; omega) | (right; simp; done) | (right; simp; omega)))))⟩

set_option maxHeartbeats 1000000 in
set_option maxRecDepth 100000 in
theorem does_other (base : Nat) (v : Value) (bs : List Nat) (sts : List Sn) (i : Nat) (s : Sn) (k x a1 a2 : Int) (w : World) (h : SesRow w base v bs sts) (hi : sts[i]? = some s) (hl : sts.length ≤ 1000) (hk : ¬ k = 0 ∧ ¬ k = 1 ∧ ¬ k = 2 ∧ ¬ k = 3 ∧ ¬ k = 4) :
    Calls Try.prog 14 #[v, .agg #[.int .i64 k, .int .i64 i, .int .i64 x, .int .i64 a1, .int .i64 a2]] w (DoesPost base v bs (sts, ⟨0, 0, 0⟩) w) := by
  obtain ⟨g, cap, b, rfl, hg, hbg, hb, hcell, hs, hown, hne⟩ := h.at hi
  have hlt : i < bs.length := by rw [h.len]; exact (List.getElem?_eq_some_iff.1 hi).1
  have hl' : bs.length ≤ 1000 := by rw [h.len]; exact hl
  have hbw := Blk.lt hs
  have hg1 : g < w.heap.size + 1 := by omega
  have hg2 : g < w.heap.size + 1 + 1 := by omega
  have h1 : decide ((i : Int) < 0) = false := by simp
  have h2 : decide (bs.length ≤ i) = false := by simp; omega
  have HW := Lib.hid h
  have HD := Lib.hid (h.below (doesStart_below w ⟨k, i, x, a1, a2⟩))
  have HS := Lib.hid (Blk.below hs (doesStart_below w ⟨k, i, x, a1, a2⟩))
  have HB := Lib.hid hb
  obtain ⟨hk0, hk1, hk2, hk3, hk4⟩ := hk
  have hk0' : (k == 0) = false := by simpa using hk0
  have hk1' : (k == 1) = false := by simpa using hk1
  have hk2' : (k == 2) = false := by simpa using hk2
  have hk3' : (k == 3) = false := by simpa using hk3
  have hk4' : (k == 4) = false := by simpa using hk4
  clear hk0 hk1 hk2 hk3 hk4
  clear h hs hb hl hi
  go_enter Try.func14, Try.ntmps14
  go_wp2_with fail
  go_region
  all_goals
    go_wp2
    exact bodyPost_ret (v := .tuple #[.slice (some ⟨g, 0, none⟩) bs.length cap, .agg #[.int .i64 0, .int .i64 0, .int .i64 0]]) (by simp [results, Try.results14, go_sem]) rfl ⟨_, bs, List.prefix_rfl, rfl, HW.out.below (Ch.below (by (repeat (first | with_reducible assumption | with_reducible exact Ch.refl _ _ | with_reducible refine Ch.drew ?_ | with_reducible refine Ch.alloc ?_ _ | (with_reducible refine Ch.set' ?_ ?_; focus (first | (right; rfl; done) | (left; simp; done) | (left; simp; omega) | (left; omega) | (right; simp; done) | (right; simp; omega))))))), by (repeat (first | with_reducible assumption | with_reducible exact Ch.refl _ _ | with_reducible refine Ch.drew ?_ | with_reducible refine Ch.alloc ?_ _ | (with_reducible refine Ch.set' ?_ ?_; focus (first | (right; rfl; done) | (left; simp; done) | (left; simp; omega) | (left; omega) | (right; simp; done) | (right; simp; omega)))))⟩

set_option maxHeartbeats 1000000 in
set_option maxRecDepth 100000 in
theorem does_fork_bad (base : Nat) (v : Value) (bs : List Nat) (sts : List Sn) (i : Nat) (s : Sn) (x a1 a2 : Int) (w : World) (h : SesRow w base v bs sts) (hi : sts[i]? = some s) (hl : sts.length ≤ 1000) (hx : (decide (0 ≤ x) && decide (x ≤ 1099511627776)) = false) :
    Calls Try.prog 14 #[v, .agg #[.int .i64 3, .int .i64 i, .int .i64 x, .int .i64 a1, .int .i64 a2]] w (DoesPost base v bs (sts, ⟨1, 0, 0⟩) w) := by
  obtain ⟨g, cap, b, rfl, hg, hbg, hb, hcell, hs, hown, hne⟩ := h.at hi
  have hlt : i < bs.length := by rw [h.len]; exact (List.getElem?_eq_some_iff.1 hi).1
  have hl' : bs.length ≤ 1000 := by rw [h.len]; exact hl
  have hbw := Blk.lt hs
  have hg1 : g < w.heap.size + 1 := by omega
  have hg2 : g < w.heap.size + 1 + 1 := by omega
  have h1 : decide ((i : Int) < 0) = false := by simp
  have h2 : decide (bs.length ≤ i) = false := by simp; omega
  have HW := Lib.hid h
  have HD := Lib.hid (h.below (doesStart_below w ⟨3, i, x, a1, a2⟩))
  have HS := Lib.hid (Blk.below hs (doesStart_below w ⟨3, i, x, a1, a2⟩))
  have HB := Lib.hid hb
  have HX := Lib.hid hx; clear hx
  clear h hs hb hl hi
  go_enter Try.func14, Try.ntmps14
  go_wp2_with fail
  refine (fork_bad b x _ HX.out).mono ?_
  rintro e w4 ⟨rfl, hb4⟩
  have B1 := (doesStart_boxes w ⟨3, i, x, a1, a2⟩).1.below hb4
  have B2 := (doesStart_boxes w ⟨3, i, x, a1, a2⟩).2.below hb4
  have C4 := (Ch.of_below (fun k => k ∈ bs ∨ k = g) (doesStart_below w ⟨3, i, x, a1, a2⟩)).call hb4
  have R4 := Lib.hid (HD.out.below hb4)
  obtain ⟨q1, q2⟩ := B1.cells
  obtain ⟨q3, q4⟩ := B2.cells
  have l1 := B1.lt
  have l2 := B2.lt
  clear hb4 B1 B2 HS HD
  go_wp2_with fail
  go_region
  all_goals
    go_wp2
    refine bodyPost_ret (v := .tuple #[.slice (some ⟨g, 0, none⟩) bs.length cap, .agg #[.int .i64 1, .int .i64 0, .int .i64 0]]) (by simp [results, Try.results14, go_sem, q1, q3]) rfl ⟨_, bs, List.prefix_rfl, rfl, ?_, ?_⟩
    · exact R4.out.tail HW.out (fun b hb => .inl hb) (fun g hg => .inl hg) (by (repeat (first | with_reducible assumption | with_reducible exact Ch.refl _ _ | with_reducible refine Ch.drew ?_ | with_reducible refine Ch.alloc ?_ _ | (with_reducible refine Ch.set' ?_ ?_; focus (first | (right; rfl; done) | (left; simp; done) | (left; simp; omega) | (left; omega) | (right; simp; done) | (right; simp; omega))))))
    · refine Ch.mono (S := fun k => k ∈ bs ∨ k = g) ?_ (fun k hk => by simpa [Value.ownBlock, eq_comm] using hk)
      (repeat (first | with_reducible assumption | with_reducible exact Ch.refl _ _ | with_reducible refine Ch.drew ?_ | with_reducible refine Ch.alloc ?_ _ | (with_reducible refine Ch.set' ?_ ?_; focus (first | (right; rfl; done) | (left; simp; done) | (left; simp; omega) | (left; omega) | (right; simp; done) | (right; simp; omega)))))

end Go.Proofs.Ytjilfmphdncapaa
