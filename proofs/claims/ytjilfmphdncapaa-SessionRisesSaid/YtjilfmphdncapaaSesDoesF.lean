/- The contract of 'does' of the session laws: a fork; and the contract whole. -/
import Derived.Test.YtjilfmphdncapaaSesDoesW
import Derived.Deep.AppendLies
set_option linter.unusedVariables false
set_option linter.unusedSimpArgs false
namespace Go.Proofs.Ytjilfmphdncapaa
open Go.RowKit

theorem infoPtr : (Try.prog.info? 30).map (fun i => (i.zero, i.size, i.bytes)) = some (some (.pointer none), 1, 8) := by kernel_rfl

theorem SesRow.ne {w : World} {base : Nat} {v : Value} {bs : List Nat} {sts : List Sn} (h : SesRow w base v bs sts) {g : Nat} (hg : v.ownBlock = some g) {b : Nat} {c m t n : Int} (hb : Ses w b c m t n) : b ≠ g := by
  rintro rfl
  rcases h.own.2 with ⟨rfl, _⟩ | ⟨g', cap, cur, rfl, _, hh, _⟩
  · simp [Value.ownBlock] at hg
  · have : g' = b := by simpa [Value.ownBlock] using hg
    subst this
    have h2 : w.heap[g']? = _ := hb
    rw [hh] at h2
    simp at h2

/-- One session more. -/
theorem SesRow.push {w4 w5 : World} {base : Nat} {v v' : Value} {bs : List Nat} {sts : List Sn} {f : Nat} {s : Sn} {S : Nat → Prop} (R : SesRow w4 base v bs sts) (hf : Ses w4 f s.c s.m s.t s.n) (hnew : f ∉ bs) (hbf : base ≤ f)
    (hown : w5.ownsRow base 30 1 v' (bs.length + 1) (bs.map ptrV ++ [ptrV f])) (hc : Ch S w4 w5) (hS : ∀ b, b ∈ bs ∨ b = f → ¬ S b) : SesRow w5 base v' (bs ++ [f]) (sts ++ [s]) :=
  ⟨by simpa using hown, by simp [R.len], by
    rw [List.nodup_append]
    refine ⟨R.nodup, by simp, fun a ha b hb => ?_⟩
    rw [List.mem_singleton] at hb
    rintro rfl
    exact hnew (hb ▸ ha),
   fun i b s' h1 h2 => by
    by_cases hi : i < bs.length
    · rw [List.getElem?_append_left hi] at h1
      rw [List.getElem?_append_left (by rw [← R.len]; exact hi)] at h2
      exact (R.ses i b s' h1 h2).ch hc (hS b (.inl (List.mem_of_getElem? h1)))
    · rw [List.getElem?_append_right (by omega)] at h1
      rw [List.getElem?_append_right (by rw [← R.len]; omega)] at h2
      have hi0 : i - bs.length = 0 := by
        have := (List.getElem?_eq_some_iff.1 h1).1
        simp at this
        omega
      rw [hi0] at h1
      rw [← R.len, hi0] at h2
      simp at h1 h2
      subst h1 h2
      exact hf.ch hc (hS _ (.inr rfl)),
   fun b hb => by
    rcases List.mem_append.1 hb with h | h
    · exact R.ge b h
    · rw [List.mem_singleton] at h; rw [h]; exact hbf⟩

set_option maxHeartbeats 2000000 in
set_option maxRecDepth 100000 in
theorem does_fork (base : Nat) (v : Value) (bs : List Nat) (sts : List Sn) (i : Nat) (s : Sn) (x a1 a2 : Int) (w : World) (h : SesRow w base v bs sts) (hi : sts[i]? = some s) (hl : sts.length ≤ 1000) (hbase : base ≤ w.heap.size)
    (hx0 : 0 ≤ x) (hx1 : x ≤ 1099511627776) :
    Calls Try.prog 14 #[v, .agg #[.int .i64 3, .int .i64 i, .int .i64 x, .int .i64 a1, .int .i64 a2]] w (DoesPost base v bs (sts ++ [⟨x, 0, s.t, s.n⟩], ⟨0, 0, 0⟩) w) := by
  obtain ⟨i0, hinfo, hz0, hz1, hz2⟩ := info_parts infoPtr
  obtain ⟨g, cap, b, rfl, hg, hbg, hb, hcell, hs, hown, hne⟩ := h.at hi
  have hlt : i < bs.length := by rw [h.len]; exact (List.getElem?_eq_some_iff.1 hi).1
  have hl' : bs.length ≤ 1000 := by rw [h.len]; exact hl
  have hbw := Blk.lt hs
  have hg1 : g < w.heap.size + 1 := by omega
  have hg2 : g < w.heap.size + 1 + 1 := by omega
  have h1 : decide ((i : Int) < 0) = false := by simp
  have h2 : decide (bs.length ≤ i) = false := by simp; omega
  have HW := Lib.hid h
  have HD := Lib.hid (h.below (doesStart_below w ⟨3, i, x, a1, a2⟩))
  have HS := Lib.hid (Blk.below hs (doesStart_below w ⟨3, i, x, a1, a2⟩))
  have HB := Lib.hid hb
  clear h hs hb hl hi
  go_enter Try.func14, Try.ntmps14
  go_wp2_with fail
  refine (fork_ok b s.c s.m s.t s.n x _ HS.out hx0 hx1).mono ?_
  rintro e w4 ⟨f, rfl, hf, F4, hb4⟩
  have hf3 : w.heap.size + 3 ≤ f := by simpa [Nat.add_assoc] using hf
  have B1 := (doesStart_boxes w ⟨3, i, x, a1, a2⟩).1.below hb4
  have B2 := (doesStart_boxes w ⟨3, i, x, a1, a2⟩).2.below hb4
  have C4 := (Ch.of_below (fun k => k ∈ bs ∨ k = g) (doesStart_below w ⟨3, i, x, a1, a2⟩)).call hb4
  have R4 := Lib.hid (HD.out.below hb4)
  have HF4 := Lib.hid F4
  obtain ⟨q1, q2⟩ := B1.cells
  obtain ⟨q3, q4⟩ := B2.cells
  have l1 := B1.lt
  have l2 := B2.lt
  have HB1 := Lib.hid B1
  have HB2 := Lib.hid B2
  clear hb4 B1 B2 HS HD hf F4
  have HO := Lib.hid (((R4.out.tail (w' := w4.setCell ⟨w.heap.size + 1 + 1, 0, none⟩ (.int .i64 0)) HW.out (fun b hb => .inl hb) (fun g hg => .inl hg) (by (repeat (first | with_reducible assumption | with_reducible exact Ch.refl _ _ | with_reducible refine Ch.drew ?_ | with_reducible refine Ch.alloc ?_ _ | (with_reducible refine Ch.set' ?_ ?_; focus (first | (right; rfl; done) | (left; simp; done) | (left; simp; omega) | (left; omega) | (right; simp; done) | (right; simp; omega))))))).own).alloc (.cells #[ptrV f] 30))
  have hbase4 : base ≤ w4.heap.size := by omega
  have hsz4 : ((w4.setCell ⟨w.heap.size + 1 + 1, 0, none⟩ (.int .i64 0)).alloc (.cells #[ptrV f] 30)).heap.size = w4.heap.size + 1 := by simp
  go_wp2_with (at_builtin; refine wpList_append_lies _ rfl (.tmp 68) (.tmp 70) 34 rfl base 30 i0 (.pointer none) 1 8 Try.underlying34 hinfo hz0 hz1 hz2 rfl (by decide) _ _ _ rfl HO.out ⟨w4.heap.size, 0, none⟩ 1 1 [ptrV f] rfl rfl ?c1 ?c2 (by decide) ?c3 ?c4 ?c5 (w4.heap.size + 1) hsz4 ?_)
  case c1 => exact World.news_of_block (cs := #[ptrV f]) (Blk.new' (w := w4.setCell ⟨w.heap.size + 1 + 1, 0, none⟩ (.int .i64 0)) (cs := #[ptrV f]) (t := 30) (b := w4.heap.size) (by simp))
  case c2 => intro u hu; simp at hu; subst hu; rfl
  case c3 => unfold maxLen; omega
  case c4 => omega
  case c5 => simp; omega
  intro g5 cap5 w5 hown5 hgrow hg5 hlt5
  have hgo : ∀ k, some k = (Value.slice (some ⟨g, 0, none⟩) bs.length cap).ownBlock → k = g := fun k e => by simpa [Value.ownBlock] using e
  have cg := Ch.of_grown hgrow
  have D5 : Ch (fun k => k = w.heap.size + 1 + 1 ∨ k = g) w4 w5 := ((((Ch.refl (fun k => k = w.heap.size + 1 + 1 ∨ k = g) w4).set (p := ⟨w.heap.size + 1 + 1, 0, none⟩) (.inr (.inl rfl)) (.int .i64 0)).alloc _).step cg (fun k hk e => .inr (hgo k e)))
  have C5 : Ch (fun k => k ∈ bs ∨ k = g) w w5 := ((C4.set (p := ⟨w.heap.size + 1 + 1, 0, none⟩) (.inl (by simp; omega)) (.int .i64 0)).alloc _).step cg (fun k hk e => .inr (hgo k e))
  have B1 := HB1.out.ch D5 (by omega)
  have B2 := ((HB2.out.set 0 (.int .i64 0)).alloc (.cells #[.pointer (some ⟨f, 0, none⟩)] 30)).ch cg (fun e => by have := hgo _ e; omega)
  have hfg : f ≠ g := by omega
  have hnf : f ∉ bs := fun hm => by have := HW.out.lts.1 f hm; omega
  have R5 := Lib.hid (R4.out.push (s := ⟨x, 0, s.t, s.n⟩) HF4.out hnf (by omega) hown5 D5 (fun b' hb' e => by
    rcases hb' with hb' | rfl
    · rcases e with e | e
      · have := HW.out.lts.1 b' hb'; omega
      · obtain ⟨j, hj, rfl⟩ := List.getElem_of_mem hb'
        have hj2 : j < sts.length := by rw [← R4.out.len]; exact hj
        exact R4.out.ne (g := g) rfl (R4.out.ses j _ _ (List.getElem?_eq_getElem hj) (List.getElem?_eq_getElem hj2)) e
    · rcases e with e | e <;> omega))
  obtain ⟨r1, r2⟩ := B1.cells
  obtain ⟨r3, r4⟩ := B2.cells
  have hv5 : ∀ k, (Value.slice (some ⟨g5, 0, none⟩) (bs.length + 1) cap5).ownBlock = some k → k = g ∨ w.heap.size + 2 < k := fun k hk => by
    have e : g5 = k := by simpa [Value.ownBlock] using hk
    rcases hg5 with h | h
    · exact .inl (by rw [← e]; simpa [Value.ownBlock, eq_comm] using h)
    · exact .inr (by omega)
  have m1 := B1.lt
  have m2 := B2.lt
  clear hg5 hsz4 q1 q2 q3 q4 l1 l2 HB1 HB2 HO hown5 hgrow D5 cg B1 B2 R4 HF4 C4 hgo
  go_wp2_with fail
  go_region
  all_goals
    go_wp2
    refine bodyPost_ret (v := .tuple #[.slice (some ⟨g5, 0, none⟩) (bs.length + 1) cap5, .agg #[.int .i64 0, .int .i64 0, .int .i64 0]]) (by simp [results, Try.results14, go_sem, r1, r3]) rfl ⟨_, bs ++ [f], List.prefix_append _ _, rfl, ?_, ?_⟩
    · refine R5.out.tail HW.out (fun b hb => ?_) (fun k hk => ?_) (by (repeat (first | with_reducible assumption | with_reducible exact Ch.refl _ _ | with_reducible refine Ch.drew ?_ | with_reducible refine Ch.alloc ?_ _ | (with_reducible refine Ch.set' ?_ ?_; focus (first | (right; rfl; done) | (left; simp; done) | (left; simp; omega) | (left; omega) | (right; simp; done) | (right; simp; omega))))))
      · rcases List.mem_append.1 hb with h | h
        · exact .inl h
        · rw [List.mem_singleton] at h; exact .inr (by omega)
      · rcases hv5 k hk with h | h
        · exact .inl (by rw [h]; exact hown)
        · exact .inr h
    · refine Ch.mono (S := fun k => k ∈ bs ∨ k = g) ?_ (fun k hk => by simpa [Value.ownBlock, eq_comm] using hk)
      (repeat (first | with_reducible assumption | with_reducible exact Ch.refl _ _ | with_reducible refine Ch.drew ?_ | with_reducible refine Ch.alloc ?_ _ | (with_reducible refine Ch.set' ?_ ?_; focus (first | (right; rfl; done) | (left; simp; done) | (left; simp; omega) | (left; omega) | (right; simp; done) | (right; simp; omega)))))
end Go.Proofs.Ytjilfmphdncapaa
