/- book's laws: Make. -/
import Derived.Test.YtpdibjaeopcimaaKb
import Derived.Test.YtpdibjaeopcimaaIr
set_option linter.unusedVariables false
set_option linter.unusedSimpArgs false
namespace Go.Proofs.Ytpdibjaeopcimaa
open Go.RowKit Go.Shelf
attribute [local go_sem] Oper.semAt_some

/-- What Make makes. -/
def makeR (b : Int) (id : Pl) (tags : List Int) (data : ByteArray) : Rc := ⟨id, (belowD b tags).map (·.1), data⟩
def makeD (b : Int) (id : Pl) (tags : List Int) (data : ByteArray) : Option Rc :=
  if (belowD b tags).all (·.2) = true ∧ tags.length ≤ 8 ∧ rightR (makeR b id tags data) = true then some (makeR b id tags data) else none
/-- What a maker tells. -/
def MakePost (o : Option Rc) (w : World) (e : Ending) (w' : World) : Prop :=
  ∃ tv, e = .returned (.tuple #[recV (o.getD rc0) tv, .int .i64 (if o.isSome then 0 else 1)]) ∧ VRow (fun k => w.heap.size ≤ k) 1 intO w' tv (o.getD rc0).tags ∧ Below w.heap.size w w'
/-- Between two rounds. -/
structure MkIn (w : World) (n6 : Nat) (id : Pl) (data : ByteArray) (pre : List (Int × Bool)) (v : Value) (W : World) : Prop where
  box : Blk W (w.heap.size + 1 + 1 + 1) #[.int .i64 id.1, .int .i64 id.2, v, .string data] 26
  r1 : Blk W (w.heap.size + 1) #[.int .i64 0, .int .i64 0, .slice none 0 0, .string ⟨#[]⟩] 26
  r2 : Blk W (w.heap.size + 1 + 1) #[.int .i64 0] 31
  row : W.ownsRow n6 3 1 v pre.length (pre.map fun p => .int .i64 p.1)
  all : pre.all (·.2) = true
  few : pre.length ≤ 9
  size : n6 ≤ W.heap.size
/-- A round has left. -/
structure MkOut (w : World) (pre : List (Int × Bool)) (W : World) : Prop where
  r1 : Blk W (w.heap.size + 1) #[.int .i64 0, .int .i64 0, .slice none 0 0, .string ⟨#[]⟩] 26
  r2 : Blk W (w.heap.size + 1 + 1) #[.int .i64 1] 31
  bad : pre.all (·.2) = false ∨ 9 < pre.length
section
variable {W W' : World} {row : Option Nat} {b t base n e size : Nat} {cs : Array Value} {v : Value} {xs : List Value}
theorem Blk.kept (h : Blk W b cs t) (hg : W.grownBy W' row) (hr : ∀ r, row = some r → ∃ o : Obj, W.heap[r]? = some o ∧ o.isCells = false) : Blk W' b cs t := by
  refine (hg.block b h.lt ?_).trans h
  intro e
  obtain ⟨o, ho, hc⟩ := hr b e.symm
  rw [show W.heap[b]? = _ from h] at ho
  cases ho
  cases hc
theorem owns_kept (h : W.ownsRow base e size v n xs) (hg : W.grownBy W' row) (hr : ∀ r, row = some r → ∃ o : Obj, W.heap[r]? = some o ∧ o.isCells = false) : W'.ownsRow base e size v n xs := by
  refine h.kept hg ?_
  rcases h.2 with ⟨rfl, _⟩ | ⟨g, cap, cur, rfl, _, hgb, _⟩
  · exact .inl rfl
  · refine .inr fun e' => ?_
    obtain ⟨o, ho, hc⟩ := hr g (by simpa [Value.ownBlock] using e'.symm)
    rw [hgb] at ho; cases ho; cases hc
end
theorem MkIn.kept {w : World} {n6 : Nat} {id : Pl} {data : ByteArray} {pre : List (Int × Bool)} {v : Value} {W W' : World} {row : Option Nat} (h : MkIn w n6 id data pre v W) (hg : W.grownBy W' row) (hr : ∀ r, row = some r → ∃ o : Obj, W.heap[r]? = some o ∧ o.isCells = false) : MkIn w n6 id data pre v W' :=
  ⟨h.box.kept hg hr, h.r1.kept hg hr, h.r2.kept hg hr, owns_kept h.row hg hr, h.all, h.few, Nat.le_trans h.size hg.size⟩
theorem MkOut.kept {w : World} {pre : List (Int × Bool)} {W W' : World} {row : Option Nat} (h : MkOut w pre W) (hg : W.grownBy W' row) (hr : ∀ r, row = some r → ∃ o : Obj, W.heap[r]? = some o ∧ o.isCells = false) : MkOut w pre W' :=
  ⟨h.r1.kept hg hr, h.r2.kept hg hr, h.bad⟩
section
variable {W W' : World} {b t base n e size : Nat} {cs : Array Value} {v : Value} {xs : List Value}
theorem owns_base (h : W.ownsRow base e size v n xs) {g : Nat} (hg : v.ownBlock = some g) : base ≤ g ∧ g < W.heap.size := by
  rcases h.2 with ⟨rfl, _⟩ | ⟨g', cap, cur, rfl, h1, hgb, _⟩
  · cases hg
  · simp only [Value.ownBlock, Option.some.injEq] at hg
    subst hg
    exact ⟨h1, (Array.getElem?_eq_some_iff.1 hgb).1⟩
theorem owns_form (h : W.ownsRow base e size v n xs) : ∃ a cap, v = .slice a n cap := by
  rcases h.2 with ⟨rfl, rfl⟩ | ⟨g', cap, cur, rfl, _⟩
  · exact ⟨_, _, rfl⟩
  · exact ⟨_, _, rfl⟩
theorem owns_ch {S : Nat → Prop} (h : W.ownsRow base e size v n xs) (hc : Ch S W W') (hs : ∀ k, base ≤ k → ¬ S k) : W'.ownsRow base e size v n xs := by
  obtain ⟨h1, h2⟩ := h
  refine ⟨h1, ?_⟩
  rcases h2 with h2 | ⟨g, cap, cur, rfl, hb, hgb, rest⟩
  · exact .inl h2
  · exact .inr ⟨g, cap, cur, rfl, hb, (hc.block g (Array.getElem?_eq_some_iff.1 hgb).1 (hs g hb)).trans hgb, rest⟩
/-- A row of numbers that is owned is read. -/
theorem owns_row {l : List Int} (h : W.ownsRow base e 1 v l.length (l.map (.int .i64 ·))) : VRow (fun k => base ≤ k) 1 intO W v l := by
  rcases h.2 with ⟨rfl, h0⟩ | ⟨g, cap, cur, rfl, hb, hgb, hn, hm, hs, ht⟩
  · have : l = [] := List.length_eq_zero_iff.1 h0
    subst this
    exact VRow.nil _ _
  · refine ⟨_, cap, rfl, hn, hm, fun i x hx => ⟨g, 0, rfl, (Array.getElem?_eq_some_iff.1 hgb).1, hb, fun j u hu => ?_⟩⟩
    have hil := (List.getElem?_eq_some_iff.1 hx).1
    have hj : j = 0 := by
      cases j with
      | zero => rfl
      | succ j => simp [intO] at hu
    subst hj
    simp only [intO, List.getElem?_cons_zero, Option.some.injEq] at hu
    subst hu
    have h3 : (cur.toList.take (l.length * 1))[i]? = some (.int .i64 x) := by rw [ht, List.getElem?_map, hx]; rfl
    rw [List.getElem?_take_of_lt (by omega)] at h3
    simp only [World.cell?, hgb]
    simpa using h3
end
/-- A record and a number are stored, each into a block that was there. -/
theorem storedR {w : World} {b1 b2 T1 T2 : Nat} {c0 c1 c2 c3 d0 : Value} (h1 : Blk w b1 #[c0, c1, c2, c3] T1) (h2 : Blk w b2 #[d0] T2) (hn : b1 ≠ b2) (a0 a1 a2 a3 e0 : Value) :
    ∃ w', w' = ((((w.setCell ⟨b1, 0, none⟩ a0).setCell ⟨b1, 1, none⟩ a1).setCell ⟨b1, 2, none⟩ a2).setCell ⟨b1, 3, none⟩ a3).setCell ⟨b2, 0, none⟩ e0 ∧
      Blk w' b1 #[a0, a1, a2, a3] T1 ∧ Blk w' b2 #[e0] T2 ∧ Ch (fun k => k = b1 ∨ k = b2) w w' ∧ KeepsOthers w w' :=
  ⟨_, rfl, ((((h1.set 0 a0).set 1 a1).set 2 a2).set 3 a3).far (p := ⟨b2, 0, none⟩) hn e0,
    ((((h2.far (p := ⟨b1, 0, none⟩) hn.symm a0).far (p := ⟨b1, 1, none⟩) hn.symm a1).far (p := ⟨b1, 2, none⟩) hn.symm a2).far (p := ⟨b1, 3, none⟩) hn.symm a3).set 0 e0,
    (((((Ch.refl (fun k => k = b1 ∨ k = b2) w).set (p := ⟨b1, 0, none⟩) (.inr (.inl rfl)) a0).set (p := ⟨b1, 1, none⟩) (.inr (.inl rfl)) a1).set (p := ⟨b1, 2, none⟩) (.inr (.inl rfl)) a2).set (p := ⟨b1, 3, none⟩) (.inr (.inl rfl)) a3).set (p := ⟨b2, 0, none⟩) (.inr (.inr rfl)) e0,
    ((((KeepsOthers.setCell _ _ _).trans (KeepsOthers.setCell _ _ _)).trans (KeepsOthers.setCell _ _ _)).trans (KeepsOthers.setCell _ _ _)).trans (KeepsOthers.setCell _ _ _)⟩
set_option maxRecDepth 100000 in
set_option maxHeartbeats 4000000 in
theorem make_any (b : Int) (id : Pl) (tags : List Int) (tv : Value) (data : ByteArray) (w : World) (hv : VRow (fun k => k < w.heap.size) 1 intO w tv tags) (hm : tags.length ≤ 140737488351232) :
    Calls Try.prog 10 #[.int .i64 b, plV id, tv, .string data] w (MakePost (makeD b id tags data) w) := by
  obtain ⟨ia, ib⟩ := id
  obtain ⟨ta, tcap, rfl, _, _⟩ := hv.slice
  obtain ⟨i0, hi, hz0, hz1, hz2⟩ := info_parts infoInt
  unfold plV
  have HBL := Lib.hid (fun w => callsIn_wide (n := 4) |>.2 (below_any b (.slice ta tags.length tcap) w ⟨_, _, _, rfl⟩))
  have HV := Lib.hid hv
  clear hv
  have B1 := (((Blk.new (w.alloc (.cells #[.int .i64 ia, .int .i64 ib] 23)) #[.int .i64 0, .int .i64 0, .slice none 0 0, .string ⟨#[]⟩] 26).alloc (.cells #[.int .i64 0] 31)).alloc (.cells #[.int .i64 ia, .int .i64 ib, .slice none 0 0, .string data] 26))
  have B2 := ((Blk.new ((w.alloc (.cells #[.int .i64 ia, .int .i64 ib] 23)).alloc (.cells #[.int .i64 0, .int .i64 0, .slice none 0 0, .string ⟨#[]⟩] 26)) #[.int .i64 0] 31).alloc (.cells #[.int .i64 ia, .int .i64 ib, .slice none 0 0, .string data] 26))
  have B3 := (Blk.new (((w.alloc (.cells #[.int .i64 ia, .int .i64 ib] 23)).alloc (.cells #[.int .i64 0, .int .i64 0, .slice none 0 0, .string ⟨#[]⟩] 26)).alloc (.cells #[.int .i64 0] 31)) #[.int .i64 ia, .int .i64 ib, .slice none 0 0, .string data] 26)
  have hb4 : Below w.heap.size w ((((w.alloc (.cells #[.int .i64 ia, .int .i64 ib] 23)).alloc (.cells #[.int .i64 0, .int .i64 0, .slice none 0 0, .string ⟨#[]⟩] 26)).alloc (.cells #[.int .i64 0] 31)).alloc (.cells #[.int .i64 ia, .int .i64 ib, .slice none 0 0, .string data] 26)) := Ch.below (by (repeat (first | with_reducible assumption | with_reducible exact Ch.refl _ _ | with_reducible refine Ch.drew ?_ | with_reducible refine Ch.alloc ?_ _ | (with_reducible refine Ch.set' ?_ ?_; focus (first | (right; rfl; done) | (left; simp; done) | (left; simp; omega) | (left; omega) | (right; simp; done) | (right; simp; omega))))))
  simp only [World.size_alloc] at B1 B2 B3
  obtain ⟨w4, hw4⟩ : ∃ w4, w4 = ((((w.alloc (.cells #[.int .i64 ia, .int .i64 ib] 23)).alloc (.cells #[.int .i64 0, .int .i64 0, .slice none 0 0, .string ⟨#[]⟩] 26)).alloc (.cells #[.int .i64 0] 31)).alloc (.cells #[.int .i64 ia, .int .i64 ib, .slice none 0 0, .string data] 26)) := ⟨_, rfl⟩
  have hsz : w4.heap.size = w.heap.size + 1 + 1 + 1 + 1 := by rw [hw4]; simp
  rw [← hw4] at B1 B2 B3 hb4
  have HB1 := Lib.hid B1
  have HB2 := Lib.hid B2
  have HB3 := Lib.hid B3
  have HB4 := Lib.hid hb4
  have HSZ := Lib.hid hsz
  clear B1 B2 B3 hb4 hsz
  refine (callsIn_wide (n := 5)).1 ?_
  refine callsIn_of_wp_marks Try.func10 rfl trivial ?_ rfl
  simp only [Try.ntmps10, List.size_toArray, List.length_cons, List.length_nil, Nat.reduceAdd, Nat.reduceSub, Array.replicate_succ, Array.replicate_zero, List.push_toArray, List.append_toArray, List.nil_append, List.cons_append]
  gi_wp2_with fail
  refine ⟨trivial, ?_⟩
  rw [← hw4]
  clear hw4
  refine (HBL.out _).mono ?_
  rintro e w6 ⟨rfl, hw6⟩
  gi_wp2_with fail
  have hBb := (Blk.new w4 #[.int .i64 b] 3).alloc (.cells #[.slice ta tags.length tcap] 24)
  have hBt := Blk.new (w4.alloc (.cells #[.int .i64 b] 3)) #[.slice ta tags.length tcap] 24
  have hb6 := below2 w4 (.cells #[.int .i64 b] 3) (.cells #[.slice ta tags.length tcap] 24)
  have hs6 : w6.heap.size = w4.heap.size + 2 := by rw [hw6]; simp
  rw [World.size_alloc] at hBt
  rw [← hw6] at hBb hBt hb6 ⊢
  have HS6 := Lib.hid hs6
  have HS := Lib.hid (show w.heap.size ≤ w6.heap.size ∧ w4.heap.size + 1 < w6.heap.size by have := HSZ.out; omega)
  have HB6 := Lib.hid (HB4.out.trans (hb6.mono HB4.out.size))
  have hv6 := (HV.out.below HB6.out).mono (S' := fun k => k < w.heap.size ∨ k = w4.heap.size ∨ k = w4.heap.size + 1) (fun k _ h => .inl h)
  have H1 := Lib.hid (HB1.out.below hb6)
  have H2 := Lib.hid (HB2.out.below hb6)
  have H3 := Lib.hid (HB3.out.below hb6)
  clear hw6 hs6
  refine wpIn_rangeFunc_ownG rfl (by omega) (gf := 49) (lb := #[.pointer (some ⟨w4.heap.size, 0, none⟩), .pointer (some ⟨w4.heap.size + 1, 0, none⟩)]) rfl trivial (enters_of Try.func49 (by kernel_rfl) rfl)
    (below_stops 4 (by omega) w4.heap.size (w4.heap.size + 1) (S := fun k => k < w.heap.size ∨ k = w4.heap.size ∨ k = w4.heap.size + 1) b tags _ hm w6 hBb hBt (.inr (.inl rfl)) (.inr (.inr rfl)) hv6) KeepP.trans
    (fun W l o o' hl _ _ _ k hk => World.putObj_heap_other (by have := HS.out; omega)) (Below.refl _ _) (fun _ => rfl)
    (fun pre W => (∃ v, MkIn w w6.heap.size (ia, ib) data pre v W) ∧ Below w.heap.size w W)
    (fun c pre W => (c = .ret ∧ MkOut w pre W) ∧ Below w.heap.size w W)
    (OwnFrom.and (fun s A B row hs hg hr => by obtain ⟨v, h⟩ := hs; exact ⟨v, h.kept hg (fun r e => (hr r e).2)⟩) (ownFrom_below (Nat.le_refl _) HS.out.1))
    (fun c => OwnFrom.and (fun s A B row hs hg hr => ⟨hs.1, hs.2.kept hg (fun r e => (hr r e).2)⟩) (ownFrom_below (Nat.le_refl _) HS.out.1))
    ⟨⟨_, H3.out, H1.out, H2.out, World.ownsRow_nil _ _ _ _, rfl, Nat.zero_le _, Nat.le_refl _⟩, HB6.out⟩
    (fun x => { tmps := #[.int .i64 b, .agg #[.int .i64 ia, .int .i64 ib], .slice ta tags.length tcap, .string data, undef, .pointer (some ⟨w.heap.size, 0, none⟩), undef, undef, .pointer (some ⟨w.heap.size + 1, 0, none⟩), .pointer (some ⟨w.heap.size + 1 + 1, 0, none⟩), .pointer (some ⟨w.heap.size + 1 + 1 + 1, 0, none⟩), .int .i64 x.1, .bool x.2, .agg #[.int .i64 ia, .int .i64 ib], .string data, .agg #[.int .i64 ia, .int .i64 ib, .slice none 0 0, .string data], .int .i64 b, .slice ta tags.length tcap, .func (.func 49) #[] #[.pointer (some ⟨w4.heap.size, 0, none⟩), .pointer (some ⟨w4.heap.size + 1, 0, none⟩)], .int .i64 x.1, .bool x.2, undef, undef, undef, undef, undef, undef, undef, undef, undef, undef, undef, undef, undef, undef, undef, undef, undef, undef, undef, undef], defers := [] }) ?assign ?body ?done ?stop
  case assign =>
    intro l x W K hK
    unfold encY
    gi_wp2
    exact hK
  case body =>
    rintro l pre ⟨t, is⟩ W ⟨⟨v, hM⟩, hB⟩ hlen
    obtain ⟨a, cap, rfl⟩ := owns_form hM.row
    have HM := Lib.hid hM
    have HBW := Lib.hid hB
    obtain ⟨q1, q2⟩ := hM.box.cells
    obtain ⟨q3, q4⟩ := hM.r1.cells
    obtain ⟨q5, q6⟩ := hM.r2.cells
    have l1 := hM.box.lt
    have l2 := hM.r1.lt
    have l3 := hM.r2.lt
    clear hM hB
    cases is with
    | false =>
      gi_wp2
      obtain ⟨W', hW', r1, r2, hc, hk⟩ := storedR HM.out.r1 HM.out.r2 (by omega) (.int .i64 0) (.int .i64 0) (.slice none 0 0) (.string ⟨#[]⟩) (.int .i64 1)
      rw [← hW']
      refine ⟨hk.from _, ⟨rfl, r1, r2, .inl (by simp)⟩, Ch.below ((Ch.of_below (fun _ => False) HBW.out).step hc (fun j hj e => by omega))⟩
    | true =>
      by_cases h8 : pre.length ≤ 8
      · have ht : decide ((8 : Int) < (pre.length : Int)) = false := by simp; omega
        have ht2 : decide (8 < pre.length) = false := by simp; omega
        have H8 := Lib.hid h8
        have hmax : pre.length + 1 ≤ maxLen := by unfold maxLen; omega
        clear h8
        gi_wp2_with (gi_at_builtin; refine wpListIn_append_own _ rfl (.tmp 31) (.tmp 33) 24 rfl w6.heap.size 3 i0 (.int .i64 0) 1 8 Try.underlying24 hi hz0 hz1 hz2 rfl (by decide) _ _ _ rfl (HM.out.row.alloc _) ⟨W.heap.size, 0, none⟩ 1 1 [.int .i64 t] rfl rfl (cell_one_new _ _ _) (by simp [Value.oneCell']) hmax (by have := H8.out; omega) (by have := HM.out.size; simp; omega) ?_; intro v' w1 hown' hgrow0 _; have hgrow : (W.alloc (.cells #[.int .i64 t] 3)).grownBy w1 (Value.slice a pre.length cap).ownBlock := hgrow0; clear hgrow0; obtain ⟨g', cap', rfl⟩ := ownsRow_succ hown'; have hbx := (HM.out.box.alloc (.cells #[.int .i64 t] 3)).ch (Ch.of_grown hgrow) (fun e => by have := (owns_base HM.out.row e.symm).1; have := HS.out; have := HSZ.out; omega); obtain ⟨p1, p2⟩ := hbx.cells; have p3 := hbx.lt)
        have hc1 : Ch (fun k => w6.heap.size ≤ k) W w1 := ((Ch.refl _ W).alloc (.cells #[.int .i64 t] 3)).trans ((Ch.of_grown hgrow).mono fun k e => (owns_base HM.out.row e.symm).1)
        have hc2 : Ch (fun k => w6.heap.size ≤ k ∨ k = w.heap.size + 1 + 1 + 1) W (w1.setCell ⟨w.heap.size + 1 + 1 + 1, 2, none⟩ (.slice (some ⟨g', 0, none⟩) (pre.length + 1) cap')) := (hc1.mono fun k e => .inl e).set (p := ⟨w.heap.size + 1 + 1 + 1, 2, none⟩) (.inr (.inr rfl)) _
        have h1 := HS.out
        have h2 := HSZ.out
        refine ⟨?_, KeepP.of_ch hc2 (fun k hk => ⟨by have := HM.out.size; omega, by omega⟩), ⟨.slice (some ⟨g', 0, none⟩) (pre.length + 1) cap', ?_⟩, Ch.below ((Ch.of_below (fun _ => False) HBW.out).step hc2 (fun j hj e => by omega))⟩
        · refine (((KeepsOthers.alloc W (.cells #[.int .i64 t] 3)).trans (KeepsOthers.of_grownBy hgrow fun j o ej hj => ?_)).trans (KeepsOthers.setCell w1 ⟨w.heap.size + 1 + 1 + 1, 2, none⟩ (.slice (some ⟨g', 0, none⟩) (pre.length + 1) cap'))).from _
          rcases (HM.out.row.alloc (.cells #[.int .i64 t] 3)).2 with ⟨e, _⟩ | ⟨g, cap, cur, e, _, hgb, _⟩
          · rw [e] at ej; simp [Value.ownBlock] at ej
          · rw [e] at ej
            obtain rfl : g = j := by simpa [Value.ownBlock] using ej
            rw [hgb] at hj; cases hj; rfl
        · refine ⟨?_, HM.out.r1.ch hc2 (by omega), HM.out.r2.ch hc2 (by omega), ?_, by simp [HM.out.all], by have := H8.out; simp; omega, Nat.le_trans HM.out.size hc2.size⟩
          · have := hbx.set 2 (.slice (some ⟨g', 0, none⟩) (pre.length + 1) cap')
            simpa using this
          · refine owns_ch (S := fun k => k = w.heap.size + 1 + 1 + 1) (W := w1) ?_ ((Ch.refl (fun k => k = w.heap.size + 1 + 1 + 1) w1).set (p := ⟨w.heap.size + 1 + 1 + 1, 2, none⟩) (.inr rfl) _) (fun k hk e => by omega)
            simpa using hown'
      · have ht : decide ((8 : Int) < (pre.length : Int)) = true := by simp; omega
        have ht2 : decide (8 < pre.length) = true := by simp; omega
        have H8 := Lib.hid h8
        clear h8
        gi_wp2
        obtain ⟨W', hW', r1, r2, hc, hk⟩ := storedR HM.out.r1 HM.out.r2 (by omega) (.int .i64 0) (.int .i64 0) (.slice none 0 0) (.string ⟨#[]⟩) (.int .i64 1)
        rw [← hW']
        refine ⟨hk.from _, ⟨rfl, r1, r2, .inr (by have := H8.out; simp; omega)⟩, Ch.below ((Ch.of_below (fun _ => False) HBW.out).step hc (fun j hj e => by omega))⟩
  case done =>
    rintro D ys W hD rfl ⟨⟨v, hM⟩, hB⟩ hK
    obtain ⟨a, cap, rfl⟩ := owns_form hM.row
    have HM := Lib.hid hM
    have HBW := Lib.hid hB
    have HK := Lib.hid hK
    have HD := Lib.hid hD
    have hrow : VRow (fun k => w6.heap.size ≤ k) 1 intO W (.slice a (belowD b tags).length cap) (makeR b (ia, ib) tags data).tags := by
      have h := hM.row
      rw [show (belowD b tags).length = (makeR b (ia, ib) tags data).tags.length by unfold makeR; simp] at h ⊢
      refine owns_row (e := 3) ?_
      have e : ((belowD b tags).map fun p => Value.int .i64 p.1) = (makeR b (ia, ib) tags data).tags.map (.int .i64 ·) := by unfold makeR; simp
      rw [← e]
      exact h
    have HROW := Lib.hid hrow
    have hlen : tags.length ≤ 8 := by have := hM.few; unfold belowD at this; simp at this; omega
    have HLEN := Lib.hid hlen
    obtain ⟨q1, q2⟩ := hM.box.cells
    have l1 := hM.box.lt
    have HRI := right_any (makeR b (ia, ib) tags data) _ W hrow (by unfold makeR belowD; simp; omega)
    obtain ⟨rr, hrr⟩ : ∃ r, rightR (makeR b (ia, ib) tags data) = r := ⟨_, rfl⟩
    have HRR := Lib.hid hrr
    rw [hrr] at HRI
    unfold recV makeR at HRI
    simp only at HRI
    have HRI := Lib.hid (callsIn_wide (n := 4) |>.2 HRI)
    clear hM hB hK hD hrow hlen hrr
    gi_wp2_with fail
    refine ⟨trivial, ?_⟩
    refine HRI.out.mono ?_
    rintro e w7 ⟨rfl, hb7⟩
    have HB7 := Lib.hid (HBW.out.trans (hb7.mono HBW.out.size))
    have hk7 := (hb7.block D (Array.getElem?_eq_some_iff.1 HK.out).1).trans HK.out
    have HK7 := Lib.hid hk7
    have h3 := HM.out.box.below hb7
    have h1 := HM.out.r1.below hb7
    have h2 := HM.out.r2.below hb7
    have HOWN7 := Lib.hid (owns_ch HM.out.row (Ch.of_below (fun _ => False) hb7) (fun _ _ => id))
    obtain ⟨z1, z2⟩ := h3.cells
    obtain ⟨z3, z4⟩ := h1.cells
    obtain ⟨z5, z6⟩ := h2.cells
    have l1' := h3.lt
    have l2 := h1.lt
    have l3 := h2.lt
    have H3' := Lib.hid h3
    have H1' := Lib.hid h1
    have H2' := Lib.hid h2
    clear hb7 hk7 h1 h2 h3 q1 q2 l1
    cases rr with
    | false =>
      gi_wp2_with fail
      obtain ⟨W', hW', r1, r2, hc, hk⟩ := storedR H1'.out H2'.out (by omega) (.int .i64 0) (.int .i64 0) (.slice none 0 0) (.string ⟨#[]⟩) (.int .i64 1)
      rw [← hW']
      clear hW'
      have hd := HD.out
      have hs := HS.out
      have hz := HSZ.out
      have hKe : W'.heap[D]? = some (.deferred (some [])) := hk.same D _ HK7.out rfl
      have hg := grownBy_putObj' W' D (.deferred none)
      have hgr : ∀ r, some D = some r → ∃ o : Obj, W'.heap[r]? = some o ∧ o.isCells = false := fun r e => by cases e; exact ⟨_, hKe, rfl⟩
      obtain ⟨f1, _⟩ := (r1.kept hg hgr).cells
      obtain ⟨f3, _⟩ := (r2.kept hg hgr).cells
      have hBe : Below w.heap.size w (W'.putObj D (.deferred none)) := (Ch.below ((Ch.of_below (fun _ => False) HB7.out).step hc (fun j hj e => by omega))).trans (belowK_b (w := w) (Nat.le_refl _) W' D _ _ (by omega) hKe rfl rfl)
      refine ⟨by simp, .inl ⟨_, _, rfl, run_takeDeferred hKe, ?_⟩⟩
      have e : makeD b (ia, ib) tags data = none := if_neg (fun h => by have := h.2.2; rw [HRR.out] at this; cases this)
      refine ⟨.tuple #[recV rc0 (.slice none 0 0), .int .i64 1], by simp [results, Try.results10, go_sem, f1, f3, recV, rc0], ?_⟩
      rw [e]
      exact ⟨_, rfl, VRow.nil _ _, hBe⟩
    | true =>
      gi_wp2_with fail
      obtain ⟨W', hW', r1, r2, hc, hk⟩ := storedR H1'.out H2'.out (by omega) (.int .i64 ia) (.int .i64 ib) (.slice a (belowD b tags).length cap) (.string data) (.int .i64 0)
      rw [← hW']
      clear hW'
      have hd := HD.out
      have hs := HS.out
      have hz := HSZ.out
      have hKe : W'.heap[D]? = some (.deferred (some [])) := hk.same D _ HK7.out rfl
      have hg := grownBy_putObj' W' D (.deferred none)
      have hgr : ∀ r, some D = some r → ∃ o : Obj, W'.heap[r]? = some o ∧ o.isCells = false := fun r e => by cases e; exact ⟨_, hKe, rfl⟩
      obtain ⟨f1, _⟩ := (r1.kept hg hgr).cells
      obtain ⟨f3, _⟩ := (r2.kept hg hgr).cells
      have hBe : Below w.heap.size w (W'.putObj D (.deferred none)) := (Ch.below ((Ch.of_below (fun _ => False) HB7.out).step hc (fun j hj e => by omega))).trans (belowK_b (w := w) (Nat.le_refl _) W' D _ _ (by omega) hKe rfl rfl)
      refine ⟨by simp, .inl ⟨_, _, rfl, run_takeDeferred hKe, ?_⟩⟩
      have e : makeD b (ia, ib) tags data = some (makeR b (ia, ib) tags data) := if_pos ⟨HM.out.all, HLEN.out, HRR.out⟩
      refine ⟨.tuple #[recV (makeR b (ia, ib) tags data) (.slice a (belowD b tags).length cap), .int .i64 0], by simp [results, Try.results10, go_sem, f1, f3, recV, makeR], ?_⟩
      rw [e]
      refine ⟨_, rfl, ?_, hBe⟩
      have h := owns_kept (owns_ch HOWN7.out hc (fun k hk e => by omega)) hg hgr
      have e1 : (makeR b (ia, ib) tags data).tags.length = (belowD b tags).length := by unfold makeR; simp
      have e2 : ((belowD b tags).map fun p => Value.int .i64 p.1) = (makeR b (ia, ib) tags data).tags.map (.int .i64 ·) := by unfold makeR; simp
      rw [e2, ← e1] at h
      show VRow _ 1 intO _ _ (makeR b (ia, ib) tags data).tags
      rw [← e1]
      exact (owns_row h).mono fun k _ hk => by omega
  case stop =>
    rintro D c pre W hD hpre ⟨⟨rfl, hO⟩, hB⟩ hK
    have hO2 := hO.kept (grownBy_putObj' W D (.deferred none)) (fun r e => by cases e; exact ⟨_, hK, rfl⟩)
    gi_wp2
    refine ⟨by simp, .inl ⟨_, _, rfl, run_takeDeferred hK, ?_⟩⟩
    obtain ⟨f1, _⟩ := hO2.r1.cells
    obtain ⟨f3, _⟩ := hO2.r2.cells
    refine ⟨.tuple #[recV rc0 (.slice none 0 0), .int .i64 1], by simp [results, Try.results10, go_sem, f1, f3, recV, rc0], ?_⟩
    have e : makeD b (ia, ib) tags data = none := by
      unfold makeD
      refine if_neg ?_
      rintro ⟨h1, h2, _⟩
      obtain ⟨q, hq⟩ := hpre
      rcases hO.bad with h | h
      · rw [← hq, List.all_append, h] at h1
        cases h1
      · have := congrArg List.length hq
        unfold belowD at this
        simp at this
        omega
    rw [e]
    exact ⟨_, rfl, VRow.nil _ _, hB.trans (belowK_b (w := w) (Nat.le_refl _) W D _ _ (by have := HS.out; omega) hK rfl rfl)⟩
end Go.Proofs.Ytpdibjaeopcimaa
