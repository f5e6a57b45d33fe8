/- PackReads: the walk. -/
import Derived.Test.YtlombcclglffgaaPkRead
import Derived.Test.YtlombcclglffgaaPkOne
import Derived.Test.YtlombcclglffgaaHinge
set_option linter.unusedVariables false
set_option linter.unusedSimpArgs false
namespace Go.Proofs.Ytlombcclglffgaa
open Go.RowKit PPackReads Go.Proofs.YtlombcclglffgaaW.PrintWords

theorem runEqFields_last {P : Program} {d : Nat} {xs ys : Array Value} {f : Field} {a b : Value} {r : Bool} {w : World} (hn : f.name ≠ "_") (ha : (part f.type xs f.offset).run P w = .ok a w) (hb : (part f.type ys f.offset).run P w = .ok b w) (he : (Op.equalIn d f.type a b).run P w = .ok r w) : (Op.eqFields d xs ys [f]).run P w = .ok r w := by
  simp only [Op.eqFields, if_pos hn, Sem.run_bind, ha, hb, he, Result.andThen_ok]
  cases r <;> simp
theorem runEqFields_cons {P : Program} {d : Nat} {xs ys : Array Value} {f : Field} {fs : List Field} {a b : Value} {r s : Bool} {w : World} (hn : f.name ≠ "_") (ha : (part f.type xs f.offset).run P w = .ok a w) (hb : (part f.type ys f.offset).run P w = .ok b w) (he : (Op.equalIn d f.type a b).run P w = .ok r w) (hr : (Op.eqFields d xs ys fs).run P w = .ok s w) : (Op.eqFields d xs ys (f :: fs)).run P w = .ok (r && s) w := by
  rw [Op.eqFields]
  simp only [if_pos hn, Sem.run_bind, ha, hb, he, Result.andThen_ok]
  cases r
  · simp
  · simpa using hr
theorem runEq_struct {P : Program} {d : Nat} {t : TypeId} {fs : Array Field} {xs ys : Array Value} {r : Bool} {w : World} (hu : P.underlying t = some (.struct fs)) (hp : P.stoodInHeld t = false)
    (h : (Op.eqFields d xs ys fs.toList).run P w = .ok r w) : (Op.equalIn (d + 1) t (.agg xs) (.agg ys)).run P w = .ok r w := by
  have hf : P.fieldsOf t = fs := by simp [Program.fieldsOf, hu]
  rw [run_equalIn_struct (P := P) w d t xs ys (by rw [hf]; exact hu) hp, hf]
  exact h
/-- '==' of two parts that are alike. -/
theorem eqPart (d : Nat) (w : World) (x0 x1 x2 : Int) (s : ByteArray) (b : Bool) :
    (Op.equalIn (d + 2) 38 (.agg #[.int .i64 x0, .int .i64 x1, .int .i64 x2, .string s, .bool b]) (.agg #[.int .i64 x0, .int .i64 x1, .int .i64 x2, .string s, .bool b])).run Try.prog w = .ok true w := by
  refine runEq_struct Try.underlying38 (by kernel_rfl) ?_
  refine runEqFields_cons (r := true) (s := true) (by decide) (by go_simp; rfl) (by go_simp; rfl) (by go_simp) ?_
  refine runEqFields_cons (r := true) (s := true) (by decide) (by go_simp; rfl) (by go_simp; rfl) (by go_simp) ?_
  refine runEqFields_cons (r := true) (s := true) (by decide) (by go_simp; rfl) (by go_simp; rfl) (by go_simp) ?_
  refine runEqFields_cons (r := true) (s := true) (by decide) (by go_simp; rfl) (by go_simp; rfl) (by go_simp) ?_
  exact runEqFields_last (by decide) (by go_simp; rfl) (by go_simp; rfl) (by go_simp)

theorem scan_le : ∀ (l : List Nat) (j n : Nat), (scan j n l).2.1 ≤ l.length
  | [], _, _ => by simp [scan]
  | x :: l, j, n => by
    have ih := scan_le l (j + 1) (n + (x - 128) * 128 ^ j)
    unfold scan
    split
    · split <;> simp
    · split
      · simp
      · simp
        omega
theorem numE_le (e limit : Int) (l : List Nat) : (numE e limit l).2.1 ≤ l.length := by
  unfold numE
  split
  · unfold numF
    have := scan_le l 0 0
    split <;> simpa using this
  · simp
theorem textE_le (e limit : Int) (l : List Nat) : (textE e limit l).2.1 ≤ l.length := by
  have := numE_le e limit l
  unfold textE
  split
  · split
    · rename_i h
      simp only [List.length_drop] at h
      show (numE e limit l).2.1 + (numE e limit l).1 ≤ l.length
      omega
    · exact this
  · exact this
theorem boolE_le (e : Int) (l : List Nat) : (boolE e l).2.1 ≤ l.length := by
  unfold boolE
  split
  · split
    · simp
    · split <;> simp
  · simp
theorem partE_le (e : Int) (l : List Nat) (p : PartD) : (partE e l p).2.1 ≤ l.length := by
  unfold partE
  split
  · exact numE_le _ _ _
  · split
    · exact textE_le _ _ _
    · split
      · exact boolE_le _ _
      · simp
/-- There is a world in which the reader has gone on. -/
theorem Rd.on {w : World} {r g : Nat} {bs : List Nat} {k : Nat} {e : Int} (h : Rd w r g bs k e) (k2 : Nat) (hk : k2 ≤ bs.length) (e2 : Int) : ∃ w', Rd w' r g bs k2 e2 ∧ Ch (· = r) w w' := by
  obtain ⟨o, hb, _⟩ := h.box
  have hne := h.ne
  refine ⟨(w.setCell ⟨r, 0, none⟩ (.slice (some ⟨g, k2, none⟩) (bs.length - k2) (bs.length - k2))).setCell ⟨r, 1, none⟩ (.int .i64 e2), ⟨⟨k2, ?_, fun _ => rfl⟩, (h.arr.far (by simpa using hne.symm) _).far (by simpa using hne.symm) _, hk, hne⟩, by (repeat (first | with_reducible assumption | with_reducible exact Ch.refl _ _ | with_reducible refine Ch.drew ?_ | with_reducible refine Ch.alloc ?_ _ | (with_reducible refine Ch.set' ?_ ?_; focus (first | (right; rfl; done) | (left; simp; done) | (left; simp; omega) | (left; omega) | (right; simp; done) | (right; simp; omega)))))⟩
  exact (hb.set 0 _).set 1 _

/-- The reference's Read beside the program's. -/
theorem read_both (B : ByteArray) (l : List Nat) (hb : ∀ b ∈ l, b < 256) (e : Int) (h : e = 0 → B = bS l) (p q : PartD) (c : Nat) (e2 : Int) (hq : partE e l p = (q, c, e2)) :
    ∃ k B', carabinerref02_Read.f k B e p.k p.n p.most p.s p.is = some (B', e2, q.k, q.n, q.most, q.s, q.is) ∧ (e2 = 0 → B' = bS (l.drop c)) := by
  by_cases he : e = 0
  · subst he
    obtain ⟨K, hK⟩ := read_ok l hb p
    have := hK K (Nat.le_refl _)
    rw [← h rfl, hq] at this
    exact ⟨K, _, this, fun _ => rfl⟩
  · obtain ⟨h1, h2⟩ := read_err B l e he p 0
    rw [hq] at h1 h2
    simp at h2
    obtain ⟨rfl, rfl⟩ := h2
    exact ⟨0, B, h1, fun h => absurd h he⟩

/-- 'string' of a whole row. -/
theorem row_string_all {w : World} {a : Option Addr} {bs : List Nat} (h : RowAt w a 1 b1 bs) (hb : ∀ b ∈ bs, b < 256) (cap : Nat) : (convert 22 9 (.slice a bs.length cap)).run Try.prog w = .ok (.string (bS bs)) w := by
  by_cases h0 : 0 < bs.length
  · have := row_string h hb bs.length cap (Nat.le_refl _) h0
    rwa [List.take_length] at this
  · obtain rfl : bs = [] := List.length_eq_zero_iff.1 (by omega)
    cases a with
    | none => exact Lib.run_convert_nil_bytes (P := Try.prog) w 22 9 5 cap Try.underlying22 Try.underlying5 Try.underlying9
    | some p =>
      have := run_convert_bytes_back (P := Try.prog) w 22 9 5 p cap [] Try.underlying22 Try.underlying5 Try.underlying9 (by simp)
      simpa [bS] using this

theorem flatPart : Flat Try.prog 38 PartD.out (fun p => p.s.size ≤ maxLen) :=
  Flat.iso (Flat.struct Try.underlying38 (FlatFs.cons (Flat.int Try.underlying3) rfl (FlatFs.cons (Flat.int Try.underlying3) (by kernel_rfl) (FlatFs.cons (Flat.int Try.underlying3) (by kernel_rfl) (FlatFs.cons (Flat.str Try.underlying9) (by kernel_rfl) (FlatFs.last (Flat.bool Try.underlying4) (by kernel_rfl) (by kernel_rfl)))))))
    (fun y => (⟨y.1, y.2.1, y.2.2.1, y.2.2.2.1, y.2.2.2.2⟩ : PartD)) (fun _ h => ⟨rfl, h.2.2.2.1⟩)

/-- The loop's state: j parts are read. -/
def ReadsIn (w : World) (r g bx : Nat) (bs : List Nat) (n : Nat) (v : Value) (wi : World) : Prop :=
  ∃ j k e B, j ≤ n ∧ v = .int .i64 (j : Nat) ∧ Rd wi r g bs k e ∧ Blk wi bx #[.string B, .int .i64 e] 41 ∧ (e = 0 → B = bS (bs.drop k)) ∧ Ch (fun _ => False) w wi

/-- Worlds behind v in which all but block r is as it was; and those in which the reader has gone on, too. -/
structure LaterBut (v : World) (r : Nat) where
  w : World
  h : Ch (· = r) v w
structure ReadOn (v : World) (r g : Nat) (bs : List Nat) (k : Nat) (e : Int) where
  w : World
  d : Rd w r g bs k e
  h : Ch (· = r) v w
instance (v : World) (r : Nat) : Nonempty (LaterBut v r) := ⟨⟨v, Ch.refl _ _⟩⟩
theorem ReadPost.at {r g : Nat} {bs : List Nat} {k : Nat} {e : Int} {p : PartD} {w w' : World} {x : Ending} {q : PartD} {c : Nat} {e2 : Int} (h : ReadPost r g bs k e p w x w') (hq : partE e (bs.drop k) p = (q, c, e2)) : x = .returned (.agg #[.int .i64 q.k, .int .i64 q.n, .int .i64 q.most, .string q.s, .bool q.is]) ∧ Rd w' r g bs (k + c) e2 ∧ Ch (· = r) w w' := by
  unfold ReadPost at h
  rw [hq] at h
  exact h
/-- A callee that makes new memory alone, behind the reading. -/
theorem Calls.readOn {P : Program} {f : FuncId} {args : Array Value} {v : World} {r g : Nat} {bs : List Nat} {k : Nat} {e : Int} {x : ReadOn v r g bs k e} {u : Value} (h : Calls P f args x.w fun e w' => e = .returned u ∧ Below x.w.heap.size x.w w') :
    Calls P f args x.w fun e1 w'' => e1 = .returned u ∧ ∃ y : ReadOn v r g bs k e, w'' = y.w :=
  h.mono fun _ w' ⟨he, hb⟩ => ⟨he, ⟨w', x.d.below hb, x.h.call hb⟩, rfl⟩

attribute [local go_sem high] eqPart

set_option maxRecDepth 100000 in
set_option maxHeartbeats 8000000 in
theorem reads_main (a a2 : Option Addr) (cap cap2 : Nat) (bs : List Nat) (ps : List PartD) (w : World) (hlb : bs.length ≤ 20000) (hlp : ps.length ≤ 200) (ro : RowAt w a 1 b1 bs) (wb : ∀ b ∈ bs, b < 256) (ro2 : RowAt w a2 5 PartD.out ps) :
    Calls Try.prog 7 #[.slice a bs.length cap, .slice a2 ps.length cap2] w fun e w' => e = .returned (.bool true) ∧ Below w.heap.size w w' := by
  have HN := Lib.hid (new_any a cap bs w ro (by omega))
  have HRO := Lib.hid ro
  have HRO2 := Lib.hid ro2
  have HWB := Lib.hid wb
  have h1 : decide ((20000 : Int) < (bs.length : Int)) = false := by simp; omega
  have h2 : decide ((200 : Int) < (ps.length : Int)) = false := by simp; omega
  have hml : bs.length ≤ maxLen := by unfold maxLen; omega
  clear ro ro2 wb
  go_enter Try.func7, Try.ntmps7
  go_wp2_with fail
  refine HN.out.mono ?_
  rintro e w3 ⟨r, g, rfl, D3, hr, hg, hb3⟩
  have HC3 := Lib.hid (Ch.of_below (fun _ => False) hb3)
  have HD3 := Lib.hid D3
  have hstr := row_string_all (HRO.out.below hb3) HWB.out cap
  have hlt3 := D3.lt
  have hsz3 := hb3.size
  clear HN D3 hb3
  go_wp2_with fail
  have D4 := HD3.out.alloc (.cells #[.string (bS bs), .int .i64 0] 41)
  have B4 := Blk.new w3 #[.string (bS bs), .int .i64 0] 41
  have C4 := HC3.out.alloc (.cells #[.string (bS bs), .int .i64 0] 41)
  go_loopw [35] (fun v35 wi => ReadsIn w r g w3.heap.size bs ps.length v35 wi) (fun i _ => ps.length - (intOf i).toNat)
  case atStart => exact ⟨0, 0, 0, bS bs, Nat.zero_le _, rfl, D4, B4, fun _ => by rw [List.drop_zero], C4⟩
  case round =>
    obtain ⟨j, k, e, B, hj, rfl, D5, B5, hB, C5⟩ := hrel
    clear D4 B4 C4 hstr
    have KD := Lib.hid D5
    have KB := Lib.hid B5
    have KC := Lib.hid C5
    have HB := Lib.hid hB
    obtain ⟨z1, z2⟩ := B5.cells
    have hbx := B5.lt
    clear D5 B5 C5 hB
    by_cases hlt : j < ps.length
    · have ht : decide ((j : Int) < (ps.length : Int)) = true := by simpa using hlt
      have ht2 : decide (ps.length ≤ j) = false := by simpa using hlt
      obtain ⟨p, hp⟩ : ∃ p, ps[j]? = some p := ⟨_, List.getElem?_eq_getElem hlt⟩
      obtain ⟨b0, off, rfl, hb0, hcells⟩ := HRO2.out j p hp
      have q0 : wr.cell? ⟨b0, off + j * 5, none⟩ = some (.int .i64 p.k) := (KC.out.below.cell (p := ⟨b0, _, none⟩) hb0).trans (hcells 0 _ rfl)
      have q1 : wr.cell? ⟨b0, off + j * 5 + 1, none⟩ = some (.int .i64 p.n) := (KC.out.below.cell (p := ⟨b0, _, none⟩) hb0).trans (hcells 1 _ rfl)
      have q2 : wr.cell? ⟨b0, off + j * 5 + 2, none⟩ = some (.int .i64 p.most) := (KC.out.below.cell (p := ⟨b0, _, none⟩) hb0).trans (hcells 2 _ rfl)
      have q3 : wr.cell? ⟨b0, off + j * 5 + 3, none⟩ = some (.string p.s) := (KC.out.below.cell (p := ⟨b0, _, none⟩) hb0).trans (hcells 3 _ rfl)
      have q4 : wr.cell? ⟨b0, off + j * 5 + 4, none⟩ = some (.bool p.is) := (KC.out.below.cell (p := ⟨b0, _, none⟩) hb0).trans (hcells 4 _ rfl)
      obtain ⟨⟨q, c, e2⟩, hq⟩ : ∃ x, partE e (bs.drop k) p = x := ⟨_, rfl⟩
      obtain ⟨K, B', hf, hB'⟩ := read_both B (bs.drop k) (fun b hb => HWB.out b (List.mem_of_mem_drop hb)) e HB.out p q c e2 hq
      have HRD := Lib.hid (carabinerref02_Read.calls K B e p.k p.n p.most p.s p.is B' e2 q.k q.n q.most q.s q.is (wr.alloc (.cells #[.int .i64 p.k, .int .i64 p.n, .int .i64 p.most, .string p.s, .bool p.is] 38)) hf)
      have HQ := Lib.hid hq
      have HB2 := Lib.hid hB'
      have P1 := Lib.hid (Blk.new wr #[.int .i64 p.k, .int .i64 p.n, .int .i64 p.most, .string p.s, .bool p.is] 38)
      have D1 := Lib.hid (KD.out.alloc (.cells #[.int .i64 p.k, .int .i64 p.n, .int .i64 p.most, .string p.s, .bool p.is] 38))
      have B1 := Lib.hid (KB.out.alloc (.cells #[.int .i64 p.k, .int .i64 p.n, .int .i64 p.most, .string p.s, .bool p.is] 38))
      have C1 := Lib.hid (KC.out.alloc (.cells #[.int .i64 p.k, .int .i64 p.n, .int .i64 p.most, .string p.s, .bool p.is] 38))
      clear hcells hf hq hB' KB KC KD HB
      go_wp2_with fail
      refine HRD.out.mono ?_
      rintro x w5 ⟨rfl, hb5⟩
      have P2 := P1.out.below hb5
      have D2 := D1.out.below hb5
      have B2 := B1.out.below hb5
      have C2 := C1.out.call hb5
      obtain ⟨y1, y2⟩ := P2.cells
      obtain ⟨x1, x2⟩ := B2.cells
      have hbx5 := B2.lt
      have hp5 := P2.lt
      have HP2 := Lib.hid P2
      have HD2 := Lib.hid D2
      have HB5 := Lib.hid B2
      have HC2 := Lib.hid C2
      clear HRD P1 D1 B1 C1 q0 q1 q2 q3 q4 P2 D2 B2 C2 hb5 z1 z2
      go_wp2_with fail

      have B9 : Blk ((((w5.setCell ⟨w3.heap.size, 0, none⟩ (.string B')).setCell ⟨w3.heap.size, 1, none⟩ (.int .i64 e2)).alloc (.cells #[.string B', .int .i64 e2] 41)).alloc (.cells #[.int .i64 q.k, .int .i64 q.n, .int .i64 q.most, .string q.s, .bool q.is] 38)) w3.heap.size #[.string B', .int .i64 e2] 41 := ((HB5.out.set 0 (.string B')).set 1 (.int .i64 e2)).alloc _ |>.alloc _
      have D9 : Rd ((((w5.setCell ⟨w3.heap.size, 0, none⟩ (.string B')).setCell ⟨w3.heap.size, 1, none⟩ (.int .i64 e2)).alloc (.cells #[.string B', .int .i64 e2] 41)).alloc (.cells #[.int .i64 q.k, .int .i64 q.n, .int .i64 q.most, .string q.s, .bool q.is] 38)) r g bs k e := HD2.out.ch (S := fun b => b = w3.heap.size) (by (repeat (first | with_reducible assumption | with_reducible exact Ch.refl _ _ | with_reducible refine Ch.drew ?_ | with_reducible refine Ch.alloc ?_ _ | (with_reducible refine Ch.set' ?_ ?_; focus (first | (right; rfl; done) | (left; simp; done) | (left; simp; omega) | (left; omega) | (right; simp; done) | (right; simp; omega)))))) (by omega) (by omega)
      have P9 : Blk ((((w5.setCell ⟨w3.heap.size, 0, none⟩ (.string B')).setCell ⟨w3.heap.size, 1, none⟩ (.int .i64 e2)).alloc (.cells #[.string B', .int .i64 e2] 41)).alloc (.cells #[.int .i64 q.k, .int .i64 q.n, .int .i64 q.most, .string q.s, .bool q.is] 38)) wr.heap.size #[.int .i64 p.k, .int .i64 p.n, .int .i64 p.most, .string p.s, .bool p.is] 38 := (((HP2.out.far (by simp; omega) _).far (by simp; omega) _).alloc _).alloc _
      have R9 : Blk ((((w5.setCell ⟨w3.heap.size, 0, none⟩ (.string B')).setCell ⟨w3.heap.size, 1, none⟩ (.int .i64 e2)).alloc (.cells #[.string B', .int .i64 e2] 41)).alloc (.cells #[.int .i64 q.k, .int .i64 q.n, .int .i64 q.most, .string q.s, .bool q.is] 38)) (w5.heap.size) #[.string B', .int .i64 e2] 41 := by (repeat (first | (with_reducible refine Blk.new' ?_; first | rfl | (simp; done) | (simp; omega)) | with_reducible refine Blk.drew ?_ | with_reducible refine Blk.alloc ?_ _))
      have T9 : Blk ((((w5.setCell ⟨w3.heap.size, 0, none⟩ (.string B')).setCell ⟨w3.heap.size, 1, none⟩ (.int .i64 e2)).alloc (.cells #[.string B', .int .i64 e2] 41)).alloc (.cells #[.int .i64 q.k, .int .i64 q.n, .int .i64 q.most, .string q.s, .bool q.is] 38)) (w5.heap.size + 1) #[.int .i64 q.k, .int .i64 q.n, .int .i64 q.most, .string q.s, .bool q.is] 38 := by (repeat (first | (with_reducible refine Blk.new' ?_; first | rfl | (simp; done) | (simp; omega)) | with_reducible refine Blk.drew ?_ | with_reducible refine Blk.alloc ?_ _))
      have C9 : Ch (fun _ => False) w ((((w5.setCell ⟨w3.heap.size, 0, none⟩ (.string B')).setCell ⟨w3.heap.size, 1, none⟩ (.int .i64 e2)).alloc (.cells #[.string B', .int .i64 e2] 41)).alloc (.cells #[.int .i64 q.k, .int .i64 q.n, .int .i64 q.most, .string q.s, .bool q.is] 38)) := by
        have := HC2.out
        (repeat (first | with_reducible assumption | with_reducible exact Ch.refl _ _ | with_reducible refine Ch.drew ?_ | with_reducible refine Ch.alloc ?_ _ | (with_reducible refine Ch.set' ?_ ?_; focus (first | (right; rfl; done) | (left; simp; done) | (left; simp; omega) | (left; omega) | (right; simp; done) | (right; simp; omega)))))
      have hle : k + c ≤ bs.length := by
        have h3 := partE_le e (bs.drop k) p
        have h4 := D9.le
        rw [HQ.out] at h3
        simp at h3
        omega
      have hs5 := HC2.out.size
      clear HP2 HD2 HB5 HC2 y1 y2 x1 x2 hbx5
      generalize ((((w5.setCell ⟨w3.heap.size, 0, none⟩ (.string B')).setCell ⟨w3.heap.size, 1, none⟩ (.int .i64 e2)).alloc (.cells #[.string B', .int .i64 e2] 41)).alloc (.cells #[.int .i64 q.k, .int .i64 q.n, .int .i64 q.most, .string q.s, .bool q.is] 38)) = wq at *
      obtain ⟨E, hE, hE2⟩ : ∃ E, carabinerref02_End.f B' e2 = some E ∧ E = (if e2 = 0 then (if k + c = bs.length then 0 else 22) else e2) := by
        unfold carabinerref02_End.f
        by_cases he : e2 = 0
        · subst he
          have hs := HB2.out rfl
          have hs2 : (B'.size : Int) = (bs.length - (k + c) : Nat) := by rw [hs, bS_size]; simp [Nat.sub_add_eq]
          by_cases hk : k + c = bs.length
          · exact ⟨0, by rw [if_pos rfl, if_neg (by omega)], by rw [if_pos rfl, if_pos hk]⟩
          · exact ⟨22, by rw [if_pos rfl, if_pos (by omega)], by rw [if_pos rfl, if_neg hk]⟩
        · exact ⟨e2, by rw [if_neg he], by rw [if_neg he]⟩
      have HR := Lib.hid (fun x : Later wq => part_any r g bs k e p x.w (D9.below x.h) HWB.out hml)
      have u1 : ∀ (x : LaterBut wq r) o, x.w.cell? ⟨wr.heap.size, o, none⟩ = #[.int .i64 p.k, .int .i64 p.n, .int .i64 p.most, .string p.s, .bool p.is][o]? := fun x => (P9.ch x.h (by omega)).cell
      have u2 : ∀ (x : LaterBut wq r) o, x.w.cell? ⟨w5.heap.size + 1, o, none⟩ = #[.int .i64 q.k, .int .i64 q.n, .int .i64 q.most, .string q.s, .bool q.is][o]? := fun x => (T9.ch x.h (by have := T9.lt; omega)).cell
      have o1 : ∀ (x : ReadOn wq r g bs (k + c) e2) o, x.w.cell? ⟨w3.heap.size, o, none⟩ = #[.string B', .int .i64 e2][o]? := fun x => (B9.ch x.h (by omega)).cell
      have HErr := Lib.hid (fun x : ReadOn wq r g bs (k + c) e2 => err_any r g bs (k + c) e2 x.w x.d)
      have HEnd := Lib.hid (fun x : ReadOn wq r g bs (k + c) e2 => end_any r g bs (k + c) e2 x.w x.d)
      rw [← hE2] at HEnd
      have HREnd := Lib.hid (fun x : ReadOn wq r g bs (k + c) e2 => carabinerref02_End.calls B' e2 E x.w hE)
      have HLeft := Lib.hid (fun x : ReadOn wq r g bs (k + c) e2 => left_any r g bs (k + c) e2 x.w x.d)
      have HB9 := Lib.hid B9
      have HD9 := Lib.hid D9
      have HC9 := Lib.hid C9
      clear D9 P9 R9 T9 B9 C9
      refine wp_region_hinge (U := fun w' => ∃ x : LaterBut wq r, w' = x.w) (C0 := fun w' => ∃ x : Later wq, w' = x.w) (C1 := fun w' => ∃ x : ReadOn wq r g bs (k + c) e2, w' = x.w) (l1 := [_, _]) (l2 := [_]) rfl (by kernel_rfl) (by kernel_rfl) (by kernel_rfl) rfl rfl rfl (fun _ ⟨x, hx⟩ => ⟨⟨x.w, Ch.of_below _ x.h⟩, hx⟩) (fun _ ⟨x, hx⟩ => ⟨⟨x.w, x.h⟩, hx⟩) ⟨⟨wq.drew, (Below.refl _ _).drew⟩, rfl⟩ ?_
      haveI : Nonempty (ReadOn wq r g bs (k + c) e2) := by
        obtain ⟨w', h1, h2⟩ := HD9.out.on (k + c) hle e2
        exact ⟨⟨w', h1, h2⟩⟩
      repeat (go_big_quiet_step (fail))
      refine wpQuiet_nil ?_
      refine ⟨.agg #[.int .i64 q.k, .int .i64 q.n, .int .i64 q.most, .string q.s, .bool q.is], ?_, ?_⟩
      · rintro _ ⟨x, rfl⟩
        unfold hAt
        simp [go_sem, hUpon]
        refine (HR.out x).mono ?_
        intro y w6 hpost
        obtain ⟨rfl, D6, c6⟩ := hpost.at HQ.out
        exact ⟨rfl, ⟨w6, D6, (Ch.of_below _ x.h).trans c6⟩, rfl⟩
      · simp only [Act.put, List.setIfInBounds_toArray, List.set]
        go_big_quiet_step (fail)
        refine wpQuiet_nil ?_
        by_cases hL : bs.length - (k + c) = B'.size
        · have hL2 : ((((bs.length - (k + c) : Nat) : Int) != (B'.size : Int)) = false) := by simp [hL]
          clear hL
          repeat (go_big_quiet_step (first | (go_at_call 15; exact Calls.readOn (HErr.out _)) | (go_at_call 14; exact Calls.readOn (HEnd.out _)) | (go_at_call 22; exact Calls.readOn (HREnd.out _)) | (go_at_call 16; exact Calls.readOn (HLeft.out _))))
          refine wpQuiet_nil ?_
          rintro _ ⟨x, rfl⟩
          have BX := HB9.out.ch x.h (by omega)
          have CX := HC9.out.step x.h (fun b hb e => by omega)
          have DX := Lib.hid x.d
          have HBX := Lib.hid BX
          have HCX := Lib.hid CX
          clear BX CX HR HErr HEnd HREnd HLeft u1 u2 o1
          go_wp2_with fail
          go_roundw
          case rel => exact ⟨j + 1, k + c, e2, B', hlt, by simp, DX.out, HBX.out, fun he => by rw [HB2.out he, List.drop_drop], HCX.out⟩
          case measure => simp only [intOf]; omega
        · have hL2 : ((((bs.length - (k + c) : Nat) : Int) != (B'.size : Int)) = true) := by simp; omega
          have he0 : (e2 == 0) = false := by
            cases h0 : (e2 == 0)
            · rfl
            · exfalso
              have h1 : e2 = 0 := by simpa using h0
              have h2 := HB2.out h1
              apply hL
              rw [h2, bS_size]
              simp [Nat.sub_add_eq]
          clear hL
          repeat (go_big_quiet_step (first | (go_at_call 15; exact Calls.readOn (HErr.out _)) | (go_at_call 14; exact Calls.readOn (HEnd.out _)) | (go_at_call 22; exact Calls.readOn (HREnd.out _)) | (go_at_call 16; exact Calls.readOn (HLeft.out _))))
          refine wpQuiet_nil ?_
          rintro _ ⟨x, rfl⟩
          have BX := HB9.out.ch x.h (by omega)
          have CX := HC9.out.step x.h (fun b hb e => by omega)
          have DX := Lib.hid x.d
          have HBX := Lib.hid BX
          have HCX := Lib.hid CX
          clear BX CX HR HErr HEnd HREnd HLeft u1 u2 o1
          go_wp2_with fail
          go_roundw
          case rel => exact ⟨j + 1, k + c, e2, B', hlt, by simp, DX.out, HBX.out, fun he => by rw [HB2.out he, List.drop_drop], HCX.out⟩
          case measure => simp only [intOf]; omega
    · have ht : decide ((j : Int) < (ps.length : Int)) = false := by simpa using hlt
      have ht2 : decide (ps.length ≤ j) = true := by simp; omega
      go_wp2_with fail
      refine (alive_any _).mono ?_
      rintro e w5 ⟨rfl, hb5⟩
      go_wp2_with fail
      go_ret
      exact ⟨rfl, (KC.out.call hb5).below⟩
end Go.Proofs.Ytlombcclglffgaa
