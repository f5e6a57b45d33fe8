/- book's reference: Make. -/
import Derived.Test.YtpdibjaeopcimaaKMade
set_option linter.unusedVariables false
set_option linter.unusedSimpArgs false
namespace Go.Proofs.Ytpdibjaeopcimaa
open Go.RowKit

theorem intO_one (n : Int) : ∀ u ∈ intO n, u.oneCell' = true := by
  intro u hu
  simp [intO] at hu
  subst hu
  rfl
theorem step_append_int {w : World} {ops : Array Oper} {o : Oper} {a : Act} {K : Act → World → Prop} {Q : Exit → Act → World → Prop} {E : Prop} (hgd : o.guard = none) (s y : Operand)
    (ho : o.op = .call { callee := .builtin .append, args := #[s, y], argTypes := #[24, 24] }) {base p : Nat} {v : Value} {xs : List Int} {x : Int} (he : a.eval s = v) (hy : a.eval y = .slice (some ⟨p, 0, none⟩) 1 1)
    (hv : ORow 1 intO w base v xs) (hp : Blk w p #[.int .i64 x] 3) (hbase : base ≤ w.heap.size) (hl : xs.length ≤ 4194304)
    (h : ∀ g off cap w', ORow 1 intO w' base (.slice (some ⟨g, off, none⟩) (xs.length + 1) cap) (xs ++ [x]) → w.grownBy w' v.ownBlock → (v.ownBlock = some g ∨ w.heap.size ≤ g) → K (a.put o.dst (.slice (some ⟨g, off, none⟩) (xs.length + 1) cap)) w') :
    if Region.wanted o (yielded ops a.tmps) = true then Oper.wp Try.prog o a w K Q else E := by
  obtain ⟨i0, hinfo, hz0, hz1, hz2⟩ := info_parts infoInt
  refine step_append_off intO_len intO_one (by decide) hgd s y 24 ho hv Try.underlying24 hinfo hz0 hz1 hz2 rfl he hy (x := x) ?_ hbase (by unfold maxLen; omega) (by omega) h
  intro j u hu
  rw [hp.cell]
  simpa [intO] using hu
theorem make_none_tag {b : Int} {id : Pl} {tags : List Int} {data : ByteArray} {k : Nat} {t : Int} (h : tags[k]? = some t) (ht : ¬ (inB t = true ∧ 0 < t)) : makeD b id tags data = none := by
  cases ho : makeD b id tags data with
  | none => rfl
  | some R => exact absurd ((make_some ho).2.1 t (List.mem_of_getElem? h)) ht
theorem make_none_book {b : Int} {id : Pl} {tags : List Int} {data : ByteArray} (h : inB b = false) : makeD b id tags data = none := by
  cases ho : makeD b id tags data with
  | none => rfl
  | some R => rw [(make_some ho).1] at h; cases h
theorem make_none_len {b : Int} {id : Pl} {tags : List Int} {data : ByteArray} (h : 8 < tags.length) : makeD b id tags data = none := by
  cases ho : makeD b id tags data with
  | none => rfl
  | some R => have := (make_some ho).2.2.1; omega
theorem right_rise : ∀ {l : List Int} {k : Nat} {p t : Int}, tagsRight l = true → l[k]? = some p → l[k + 1]? = some t → p < t
  | [], _, _, _, _, h, _ => by simp at h
  | x :: l, 0, p, t, hr, h1, h2 => by
    simp at h1 h2
    subst h1
    unfold tagsRight at hr
    simp only [Bool.and_eq_true] at hr
    have h3 := hr.1.2
    cases l with
    | nil => simp at h2
    | cons y l =>
      simp at h2 h3
      rw [h2] at h3
      exact h3
  | x :: l, k + 1, p, t, hr, h1, h2 => by
    unfold tagsRight at hr
    simp only [Bool.and_eq_true] at hr
    exact right_rise hr.2 (by simpa using h1) (by simpa using h2)
theorem make_none_rise {b : Int} {id : Pl} {tags : List Int} {data : ByteArray} {k : Nat} {p t : Int} (h1 : tags[k]? = some p) (h2 : tags[k + 1]? = some t) (hle : t ≤ p) : makeD b id tags data = none := by
  cases ho : makeD b id tags data with
  | none => rfl
  | some R =>
    exfalso
    obtain ⟨_, _, _, hr, _, _, htg⟩ := make_some ho
    unfold rightR at hr
    simp only [Bool.and_eq_true] at hr
    have h3 := hr.2
    rw [htg] at h3
    have := right_rise (k := k + 1) (p := 1 + 1024 * b + p) (t := 1 + 1024 * b + t) h3 (by simp [h1]) (by simp [h2])
    omega
/-- What the reference makes, if its tags may be. -/
def refR (b : Int) (id : Pl) (tags : List Int) (data : ByteArray) : Rc := ⟨id, (1 + 1024 * b) :: tags.map (1 + 1024 * b + ·), data⟩
theorem make_ref {b : Int} {id : Pl} {tags : List Int} {data : ByteArray} (hb : inB b = true) (hl : tags.length ≤ 8) (ht : ∀ t ∈ tags, inB t = true ∧ 0 < t) : makeD b id tags data = if rightR (refR b id tags data) = true then some (refR b id tags data) else none := by
  have e1 : makeR b id tags data = refR b id tags data := by
    unfold makeR refR belowD
    simp only [List.map_cons, List.map_map]
    rw [tagD_t hb (by decide)]
    congr 1
    congr 1
    · simp
    · refine List.map_congr_left fun t hm => ?_
      simp only [Function.comp, yieldD]
      rw [tagD_t hb (ht t hm).1]
  have e2 : (belowD b tags).all (·.2) = true := by
    unfold belowD
    simp only [List.all_cons, List.all_map, Bool.and_eq_true, List.all_eq_true, Function.comp]
    refine ⟨by rw [tagD_t hb (by decide)], fun t hm => ?_⟩
    unfold yieldD
    rw [tagD_t hb (ht t hm).1]
    simp [(ht t hm).2]
  unfold makeD
  rw [e1]
  by_cases hr : rightR (refR b id tags data) = true
  · rw [if_pos ⟨e2, hl, hr⟩, if_pos hr]
  · rw [if_neg (fun h => hr h.2.2), if_neg hr]
/-- The reference's Make's loop. -/
def RmIn (w w3 : World) (id : Pl) (data : ByteArray) (b : Int) (tags : List Int) (v13 : Value) (wi : World) : Prop :=
  ∃ (k : Nat) (g off cap : Nat), v13 = .int .i64 (k : Int) ∧ k ≤ tags.length ∧ (∀ j t, j < k → tags[j]? = some t → inB t = true ∧ 0 < t) ∧
    Blk wi (w.heap.size + 1 + 1 + 1) #[.int .i64 id.1, .int .i64 id.2, .slice (some ⟨g, off, none⟩) (k + 1) cap, .string data] 26 ∧
    ORow 1 intO wi (w.heap.size + 1 + 1) (.slice (some ⟨g, off, none⟩) (k + 1) cap) ((1 + 1024 * b) :: (tags.take k).map (1 + 1024 * b + ·)) ∧ g ≠ w.heap.size + 1 + 1 + 1 ∧ Ch (fun j => w.heap.size + 1 + 1 ≤ j) w3 wi
theorem rm_take {b : Int} {tags : List Int} {k : Nat} {t : Int} (h : tags[k]? = some t) : (1 + 1024 * b) :: (tags.take (k + 1)).map (1 + 1024 * b + ·) = ((1 + 1024 * b) :: (tags.take k).map (1 + 1024 * b + ·)) ++ [1 + 1024 * b + t] := by
  rw [List.take_add_one, h]
  simp
theorem row_one {w : World} {c : Nat} {n : Int} (h : Blk w c #[.int .i64 n] 3) : ORow 1 intO w c (.slice (some ⟨c, 0, none⟩) (0 + 1) 1) [n] := by
  refine .inr ⟨c, 0, 1, rfl, Nat.le_refl _, h.lt, Nat.le_refl _, by unfold maxLen; omega, fun j hj => ?_, fun j v hv => ?_⟩
  · have : j = 0 := by omega
    subst this
    exact ⟨by rw [h.cell]; rfl, h.free _⟩
  · rw [h.cell]
    simpa [intO] using hv
set_option maxRecDepth 100000 in
set_option maxHeartbeats 8000000 in
theorem rmake_any (b : Int) (id : Pl) (tags : List Int) (tv : Value) (data : ByteArray) (w : World) (hv : VRow (fun k => k < w.heap.size) 1 intO w tv tags) (hm : tags.length ≤ 140737488351232) :
    Calls Try.prog 20 #[.int .i64 b, plV id, tv, .string data] w (MakePost (makeD b id tags data) w) := by
  obtain ⟨ia, ib⟩ := id
  obtain ⟨ta, tcap, rfl, _, _⟩ := hv.slice
  have hb2 := below2 w (.cells #[.int .i64 ia, .int .i64 ib] 23) (.cells #[.int .i64 0, .int .i64 0, .slice none 0 0, .string ⟨#[]⟩] 26)
  have HTA := Lib.hid (fun w => rtag_any b 0 w)
  have HV := Lib.hid hv
  unfold plV
  simp only
  have hno : ∀ w', Below w.heap.size w w' → MakePost none w (.returned (.tuple #[recV rc0 (.slice none 0 0), .int .i64 1])) w' := fun w' h => ⟨_, rfl, VRow.nil _ _, h⟩
  have HNO := Lib.hid hno
  unfold recV rc0 at HNO
  simp only at HNO
  clear hv hno
  cases hb : inB b with
  | false =>
    rw [make_none_book hb]
    rw [tagD_f1 hb] at HTA
    clear hb hm hb2
    go_enter Try.func20, Try.ntmps20
    go_wp2_with fail
    refine (HTA.out _).mono ?_
    rintro e w3 ⟨rfl, hw⟩
    rw [hw]
    clear hw
    go_wp2_with fail
    refine bodyPost_ret (v := .tuple #[.agg #[.int .i64 0, .int .i64 0, .slice none 0 0, .string ⟨#[]⟩], .int .i64 1]) (by simp [results, Try.results20, go_sem]) rfl ?_
    exact HNO.out _ (Ch.below (by (repeat (first | with_reducible assumption | with_reducible exact Ch.refl _ _ | with_reducible refine Ch.drew ?_ | with_reducible refine Ch.alloc ?_ _ | (with_reducible refine Ch.set' ?_ ?_; focus (first | (right; rfl; done) | (left; simp; done) | (left; simp; omega) | (left; omega) | (right; simp; done) | (right; simp; omega)))))))
  | true =>
    rw [tagD_t hb (by decide)] at HTA
    by_cases h8 : 8 < tags.length
    · rw [make_none_len h8]
      have t8 : decide ((8 : Int) < (tags.length : Int)) = true := decide_eq_true (by omega)
      clear hb hm hb2 h8
      go_enter Try.func20, Try.ntmps20
      go_wp2_with fail
      refine (HTA.out _).mono ?_
      rintro e w3 ⟨rfl, hw⟩
      rw [hw]
      clear hw
      go_wp2_with fail
      refine bodyPost_ret (v := .tuple #[.agg #[.int .i64 0, .int .i64 0, .slice none 0 0, .string ⟨#[]⟩], .int .i64 1]) (by simp [results, Try.results20, go_sem]) rfl ?_
      exact HNO.out _ (Ch.below (by (repeat (first | with_reducible assumption | with_reducible exact Ch.refl _ _ | with_reducible refine Ch.drew ?_ | with_reducible refine Ch.alloc ?_ _ | (with_reducible refine Ch.set' ?_ ?_; focus (first | (right; rfl; done) | (left; simp; done) | (left; simp; omega) | (left; omega) | (right; simp; done) | (right; simp; omega)))))))
    · have t8 : decide ((8 : Int) < (tags.length : Int)) = false := decide_eq_false (by omega)
      have HH8 := Lib.hid (show tags.length ≤ 8 by omega)
      have HBB := Lib.hid hb
      rw [show (1 + 1024 * b + 0 : Int) = 1 + 1024 * b by omega] at HTA
      clear hm h8 hb
      go_enter Try.func20, Try.ntmps20
      go_wp2_with fail
      refine (HTA.out _).mono ?_
      rintro e w3 ⟨rfl, hw⟩
      rw [hw]
      clear hw
      go_wp2_with fail
      have hw4 : Below w.heap.size w ((((w.alloc (.cells #[.int .i64 ia, .int .i64 ib] 23)).alloc (.cells #[.int .i64 0, .int .i64 0, .slice none 0 0, .string ⟨#[]⟩] 26)).alloc (.cells #[.int .i64 (1 + 1024 * b)] 3)).alloc (.cells #[.int .i64 ia, .int .i64 ib, .slice (some ⟨w.heap.size + 1 + 1, 0, none⟩) 1 1, .string data] 26)) := Ch.below (by (repeat (first | with_reducible assumption | with_reducible exact Ch.refl _ _ | with_reducible refine Ch.drew ?_ | with_reducible refine Ch.alloc ?_ _ | (with_reducible refine Ch.set' ?_ ?_; focus (first | (right; rfl; done) | (left; simp; done) | (left; simp; omega) | (left; omega) | (right; simp; done) | (right; simp; omega))))))
      have R1 := ((Blk.new (w.alloc (.cells #[.int .i64 ia, .int .i64 ib] 23)) #[.int .i64 0, .int .i64 0, .slice none 0 0, .string ⟨#[]⟩] 26).alloc (.cells #[.int .i64 (1 + 1024 * b)] 3)).alloc (.cells #[.int .i64 ia, .int .i64 ib, .slice (some ⟨w.heap.size + 1 + 1, 0, none⟩) 1 1, .string data] 26)
      have R2 := (Blk.new ((w.alloc (.cells #[.int .i64 ia, .int .i64 ib] 23)).alloc (.cells #[.int .i64 0, .int .i64 0, .slice none 0 0, .string ⟨#[]⟩] 26)) #[.int .i64 (1 + 1024 * b)] 3).alloc (.cells #[.int .i64 ia, .int .i64 ib, .slice (some ⟨w.heap.size + 1 + 1, 0, none⟩) 1 1, .string data] 26)
      have R3 := Blk.new (((w.alloc (.cells #[.int .i64 ia, .int .i64 ib] 23)).alloc (.cells #[.int .i64 0, .int .i64 0, .slice none 0 0, .string ⟨#[]⟩] 26)).alloc (.cells #[.int .i64 (1 + 1024 * b)] 3)) #[.int .i64 ia, .int .i64 ib, .slice (some ⟨w.heap.size + 1 + 1, 0, none⟩) 1 1, .string data] 26
      simp only [World.size_alloc] at R1 R2 R3
      obtain ⟨w4, he4⟩ : ∃ w', w' = (((w.alloc (.cells #[.int .i64 ia, .int .i64 ib] 23)).alloc (.cells #[.int .i64 0, .int .i64 0, .slice none 0 0, .string ⟨#[]⟩] 26)).alloc (.cells #[.int .i64 (1 + 1024 * b)] 3)).alloc (.cells #[.int .i64 ia, .int .i64 ib, .slice (some ⟨w.heap.size + 1 + 1, 0, none⟩) 1 1, .string data] 26) := ⟨_, rfl⟩
      have hs4 : w4.heap.size = w.heap.size + 1 + 1 + 1 + 1 := by rw [he4]; simp
      rw [← he4] at hw4 R1 R2 R3 ⊢
      have HW4 := Lib.hid hw4
      have HR1 := Lib.hid R1
      have HS4 := Lib.hid hs4
      have hrow : ORow 1 intO w4 (w.heap.size + 1 + 1) (.slice (some ⟨w.heap.size + 1 + 1, 0, none⟩) (0 + 1) 1) ((1 + 1024 * b) :: (tags.take 0).map (1 + 1024 * b + ·)) := row_one R2
      clear he4 hb2 hw4 hs4 R1 R2
      go_loopw [13] (fun v13 wi => RmIn w w4 (ia, ib) data b tags v13 wi) (fun i _ => tags.length - (intOf i).toNat)
      case atStart => exact ⟨0, _, _, _, rfl, Nat.zero_le _, fun j t hj _ => absurd hj (Nat.not_lt_zero _), R3, hrow, by omega, Ch.refl _ _⟩
      case round =>
        obtain ⟨k, g, off, cap, rfl, hk, hok, hbx, hro, hg, hch⟩ := hrel
        have HOK := Lib.hid hok
        have HBX := Lib.hid hbx
        have HRO := Lib.hid hro
        have HG := Lib.hid hg
        have HCH := Lib.hid hch
        have hr1 := HR1.out.ch hch (by omega)
        have HR1r := Lib.hid hr1
        have HBW := Lib.hid (show Below w.heap.size w wr from Ch.below ((Ch.of_below (fun _ => False) HW4.out).step hch (fun j hj e => by omega)))
        clear hok hbx hro hg hch hr1 hrow R3
        by_cases hlt : k < tags.length
        · have ht : decide ((k : Int) < (tags.length : Int)) = true := by simpa using hlt
          obtain ⟨t, hp⟩ : ∃ t, tags[k]? = some t := ⟨_, List.getElem?_eq_getElem hlt⟩
          have HP := Lib.hid hp
          obtain ⟨g2, off2, cap2, e, hat⟩ := (HV.out.below HBW.out).at hp
          cases e
          have c0 : wr.cell? ⟨g2, off2 + k, none⟩ = some (.int .i64 t) := by simpa using hat 0 _ rfl
          have d0 := fun y : Later wr => (y.h.cell (cell_spot c0).2).trans c0
          have hkb : k < tags.length := hlt
          have HLT := Lib.hid hlt
          clear hp hat hlt
          have C0 := Lib.hid c0
          have HW2 := Lib.hid (show wrap64 ((k : Int) + 1) = (k : Int) + 1 from IntWalk.wrap64_in _ (by have := HH8.out; omega))
          clear c0
          by_cases h5 : t < 1
          · have t5 : decide (t < 1) = true := decide_eq_true h5
            have HF := Lib.hid (make_none_tag (b := b) (id := (ia, ib)) (data := data) HP.out (fun h => by omega))
            go_wp2_with fail
            refine wp_region_later (by kernel_rfl) (by kernel_rfl) ?_
            repeat (go_big_quiet_step (fail))
            refine wpQuiet_nil ?_
            rintro _ ⟨y, rfl⟩
            have hr1 := HR1r.out.below y.h
            obtain ⟨q1, q2⟩ := hr1.cells
            have l1 := hr1.lt
            have HRy := Lib.hid hr1
            have HBy := Lib.hid (HBW.out.trans (y.h.mono HBW.out.size))
            obtain ⟨wy, hwy⟩ : ∃ wy, wy = y.w := ⟨_, rfl⟩
            rw [← hwy] at q1 q2 l1 HRy HBy ⊢
            clear hr1 d0 hwy
            go_wp2_with fail
            obtain ⟨w', hw', r1, hch, hz⟩ := set4 HRy.out (.int .i64 0) (.int .i64 0) (.slice none 0 0) (.string ⟨#[]⟩)
            rw [← hw']
            clear hw'
            obtain ⟨f1, _⟩ := r1.cells
            refine bodyPost_ret (v := .tuple #[.agg #[.int .i64 0, .int .i64 0, .slice none 0 0, .string ⟨#[]⟩], .int .i64 1]) (by simp [results, Try.results20, go_sem, f1]) rfl ?_
            rw [HF.out]
            exact HNO.out _ (Ch.below ((Ch.of_below (fun _ => False) HBy.out).step hch (fun j hj e => by omega)))
          have t5 : decide (t < 1) = false := decide_eq_false h5
          by_cases h6 : 1023 < t
          · have t6 : decide (1023 < t) = true := decide_eq_true h6
            have HF := Lib.hid (make_none_tag (b := b) (id := (ia, ib)) (data := data) HP.out (fun h => by have := (inB_iff.1 h.1).2; omega))
            go_wp2_with fail
            refine wp_region_later (by kernel_rfl) (by kernel_rfl) ?_
            repeat (go_big_quiet_step (fail))
            refine wpQuiet_nil ?_
            rintro _ ⟨y, rfl⟩
            have hr1 := HR1r.out.below y.h
            obtain ⟨q1, q2⟩ := hr1.cells
            have l1 := hr1.lt
            have HRy := Lib.hid hr1
            have HBy := Lib.hid (HBW.out.trans (y.h.mono HBW.out.size))
            obtain ⟨wy, hwy⟩ : ∃ wy, wy = y.w := ⟨_, rfl⟩
            rw [← hwy] at q1 q2 l1 HRy HBy ⊢
            clear hr1 d0 hwy
            go_wp2_with fail
            obtain ⟨w', hw', r1, hch, hz⟩ := set4 HRy.out (.int .i64 0) (.int .i64 0) (.slice none 0 0) (.string ⟨#[]⟩)
            rw [← hw']
            clear hw'
            obtain ⟨f1, _⟩ := r1.cells
            refine bodyPost_ret (v := .tuple #[.agg #[.int .i64 0, .int .i64 0, .slice none 0 0, .string ⟨#[]⟩], .int .i64 1]) (by simp [results, Try.results20, go_sem, f1]) rfl ?_
            rw [HF.out]
            exact HNO.out _ (Ch.below ((Ch.of_below (fun _ => False) HBy.out).step hch (fun j hj e => by omega)))
          have t6 : decide (1023 < t) = false := decide_eq_false h6
          have HTI : inB t = true ∧ 0 < t := ⟨inB_iff.2 ⟨by omega, by omega⟩, by omega⟩
          by_cases h0 : k = 0
          · have hi0 : decide (0 < (k : Int)) = false := decide_eq_false (by omega)
            have hi1 : decide (0 < k) = false := decide_eq_false (by omega)
            have hi2 : ¬ (0 < k) := by omega
            clear h0 h5 h6
            go_wp2_with fail
            refine wp_region_later (by kernel_rfl) (by kernel_rfl) ?_
            repeat (go_big_quiet_step (fail))
            refine wpQuiet_nil ?_
            rintro _ ⟨y, rfl⟩
            have HTI := Lib.hid (show inB t = true ∧ 0 < t from HTI)
            obtain ⟨k1, k2, k3⟩ := tag_wrap HBB.out HTI.out.1
            have k4 : IntKind.i64.wrap (1 + 1024 * b + t) = 1 + 1024 * b + t := by rw [IntWalk.i64_left]; exact k3
            have HYB := Lib.hid y.h
            obtain ⟨wy, hwy⟩ : ∃ wy, wy = y.w := ⟨_, rfl⟩
            rw [← hwy] at HYB ⊢
            clear hwy d0
            have hbx := HBX.out.below HYB.out
            have HBXy := Lib.hid hbx
            obtain ⟨q1, q2⟩ := hbx.cells
            have l1 := hbx.lt
            have c0 := (HYB.out.cell (cell_spot C0.out).2).trans C0.out
            have HOW := Lib.hid (fun w' (hc : Ch (fun _ => False) wy w') => (HRO.out.below HYB.out).ch hc (fun _ _ => id))
            have HTK := Lib.hid (rm_take (b := b) HP.out)
            have hlen : ((1 + 1024 * b) :: (tags.take k).map (1 + 1024 * b + ·)).length = k + 1 := by simp; omega
            have HLN := Lib.hid hlen
            clear hlen hbx k1 k2
            go_wp2_with fail
            go_region_law (refine step_append_int (x := 1 + 1024 * b + t) rfl (.tmp 68) (.tmp 75) rfl rfl rfl (HOW.out _ (by (repeat (first | with_reducible assumption | with_reducible exact Ch.refl _ _ | with_reducible refine Ch.drew ?_ | with_reducible refine Ch.alloc ?_ _ | (with_reducible refine Ch.set' ?_ ?_; focus (first | (right; rfl; done) | (left; simp; done) | (left; simp; omega) | (left; omega) | (right; simp; done) | (right; simp; omega))))))) (by (repeat (first | (with_reducible refine Blk.new' ?_; first | rfl | (simp; done) | (simp; omega)) | with_reducible refine Blk.drew ?_ | with_reducible refine Blk.alloc ?_ _))) (by have := HYB.out.size; have := HBXy.out.lt; simp; omega) (by rw [HLN.out]; have := HH8.out; have := HLT.out; omega) ?_; intro g7 off7 cap7 w7 hown7 hgrow7 hg7; have hch7 : Ch (fun j => j = g) wy w7 := ((((Ch.refl (fun _ => False) wy).alloc (.cells #[.int .i64 (1 + 1024 * b + t)] 3)).drew).mono (fun j e => e.elim)).step (Ch.of_grown hgrow7) (fun j hj e => Option.some.inj (show some j = some g from e)); have hgg : some g = some g7 ∨ wy.heap.size ≤ g7 := hg7.imp (fun h => h) (fun h => by simp at h; omega); clear hg7 hgrow7; obtain ⟨z1, z2⟩ := (HBXy.out.ch hch7 (fun e => HG.out e.symm)).cells; have m1 := (HBXy.out.ch hch7 (fun e => HG.out e.symm)).lt)
            all_goals
              have hset := (Ch.refl (fun j => j = w.heap.size + 1 + 1 + 1) w7).set (p := ⟨w.heap.size + 1 + 1 + 1, 2, none⟩) (.inr rfl) (.slice (some ⟨g7, off7, none⟩) (k + 1 + 1) cap7)
              have hlo := HRO.out.own (g := g) rfl
              have hl3 := HBXy.out.lt
              have hbx7 := HBXy.out.ch hch7 (fun e => HG.out e.symm)
              have hw8 := hbx7.set 2 (.slice (some ⟨g7, off7, none⟩) (k + 1 + 1) cap7)
              rw [HLN.out, ← HTK.out] at hown7
              have hne7 : g7 ≠ w.heap.size + 1 + 1 + 1 := by
                rcases hgg with h | h
                · rw [← Option.some.inj h]; exact HG.out
                · omega
              have hro8 := hown7.ch hset (fun q hq e => by simp [Value.ownBlock] at hq; omega)
              have hch8 : Ch (fun j => w.heap.size + 1 + 1 ≤ j) w4 _ := ((HCH.out.trans (Ch.of_below _ HYB.out)).step hch7 (fun j hj e => by omega)).step hset (fun j hj e => by omega)
              have HNX := Lib.hid (show ∀ j u, j < k + 1 → tags[j]? = some u → inB u = true ∧ 0 < u from fun j u hj hu => by
                by_cases hjk : j = k
                · subst hjk
                  rw [HP.out] at hu
                  cases hu
                  exact HTI.out
                · exact HOK.out j u (by omega) hu)
              have HALL := Lib.hid (And.intro hw8 (And.intro hro8 (And.intro hne7 hch8)))
              clear hset hlo hl3 hbx7 hw8 hown7 hgg hch7 hne7 hro8 hch8 z1 z2 m1 q1 q2 l1 c0
              go_wp2_with fail
              go_roundw
              case rel => exact ⟨k + 1, g7, off7, cap7, (by first | rfl | (rw [HW2.out]; rfl)), HLT.out, HNX.out, by simpa using HALL.out.1, HALL.out.2.1, HALL.out.2.2.1, HALL.out.2.2.2⟩
              case measure => first | exact rt_meas HW2.out HLT.out | exact rt_meas2 HLT.out
          · obtain ⟨kp, hk⟩ : ∃ kp, k = kp + 1 := ⟨k - 1, by omega⟩
            have hi0 : decide (0 < (k : Int)) = true := decide_eq_true (by omega)
            have hi1 : decide (0 < k) = true := decide_eq_true (by omega)
            have hw : wrap64 ((k : Int) - 1) = (kp : Int) := by rw [IntWalk.wrap64_in _ (by have := HH8.out; omega)]; omega
            have hwi : IntKind.i64.wrap ((k : Int) - 1) = (kp : Int) := by rw [IntWalk.i64_left]; exact hw
            obtain ⟨p, hp⟩ : ∃ p, tags[kp]? = some p := ⟨_, List.getElem?_eq_getElem (by omega)⟩
            have HPP := Lib.hid hp
            obtain ⟨g', off', cap', e', hat'⟩ := (HV.out.below HBW.out).at hp
            injection e' with e1 e2 e3
            injection e1 with e1
            injection e1 with e4 e5 e6
            subst e4 e5
            have c1 : wr.cell? ⟨g2, off2 + kp, none⟩ = some (.int .i64 p) := by simpa using hat' 0 _ rfl
            have d1 := fun y : Later wr => (y.h.cell (cell_spot c1).2).trans c1
            have htk : decide ((kp : Int) < (tags.length : Int)) = true := decide_eq_true (by omega)
            have hkl : kp < tags.length := by omega
            by_cases h7 : t ≤ p
            · have t7 : decide (t ≤ p) = true := decide_eq_true h7
              have HF := Lib.hid (make_none_rise (b := b) (id := (ia, ib)) (data := data) HPP.out (by rw [← hk]; exact HP.out) h7)
              clear hk hp hat' e2 e3 h0 h5 h6 h7 c1
              go_wp2_with fail
              refine wp_region_later (by kernel_rfl) (by kernel_rfl) ?_
              repeat (go_big_quiet_step (fail))
              refine wpQuiet_nil ?_
              rintro _ ⟨y, rfl⟩
              have hr1 := HR1r.out.below y.h
              obtain ⟨q1, q2⟩ := hr1.cells
              have l1 := hr1.lt
              have HRy := Lib.hid hr1
              have HBy := Lib.hid (HBW.out.trans (y.h.mono HBW.out.size))
              obtain ⟨wy, hwy⟩ : ∃ wy, wy = y.w := ⟨_, rfl⟩
              rw [← hwy] at q1 q2 l1 HRy HBy ⊢
              clear hr1 d0 d1 hwy
              go_wp2_with fail
              obtain ⟨w', hw', r1, hch, hz⟩ := set4 HRy.out (.int .i64 0) (.int .i64 0) (.slice none 0 0) (.string ⟨#[]⟩)
              rw [← hw']
              clear hw'
              obtain ⟨f1, _⟩ := r1.cells
              refine bodyPost_ret (v := .tuple #[.agg #[.int .i64 0, .int .i64 0, .slice none 0 0, .string ⟨#[]⟩], .int .i64 1]) (by simp [results, Try.results20, go_sem, f1]) rfl ?_
              rw [HF.out]
              exact HNO.out _ (Ch.below ((Ch.of_below (fun _ => False) HBy.out).step hch (fun j hj e => by omega)))
            · have t7 : decide (t ≤ p) = false := decide_eq_false h7
              clear h0 h5 h6 h7 hat' hp hk e2 e3 c1
              go_wp2_with fail
              refine wp_region_later (by kernel_rfl) (by kernel_rfl) ?_
              repeat (go_big_quiet_step (fail))
              refine wpQuiet_nil ?_
              rintro _ ⟨y, rfl⟩
              have HTI := Lib.hid (show inB t = true ∧ 0 < t from HTI)
              obtain ⟨k1, k2, k3⟩ := tag_wrap HBB.out HTI.out.1
              have k4 : IntKind.i64.wrap (1 + 1024 * b + t) = 1 + 1024 * b + t := by rw [IntWalk.i64_left]; exact k3
              have HYB := Lib.hid y.h
              obtain ⟨wy, hwy⟩ : ∃ wy, wy = y.w := ⟨_, rfl⟩
              rw [← hwy] at HYB ⊢
              clear hwy d0 d1
              have hbx := HBX.out.below HYB.out
              have HBXy := Lib.hid hbx
              obtain ⟨q1, q2⟩ := hbx.cells
              have l1 := hbx.lt
              have c0 := (HYB.out.cell (cell_spot C0.out).2).trans C0.out
              have HOW := Lib.hid (fun w' (hc : Ch (fun _ => False) wy w') => (HRO.out.below HYB.out).ch hc (fun _ _ => id))
              have HTK := Lib.hid (rm_take (b := b) HP.out)
              have hlen : ((1 + 1024 * b) :: (tags.take k).map (1 + 1024 * b + ·)).length = k + 1 := by simp; omega
              have HLN := Lib.hid hlen
              clear hlen hbx k1 k2
              go_wp2_with fail
              go_region_law (refine step_append_int (x := 1 + 1024 * b + t) rfl (.tmp 68) (.tmp 75) rfl rfl rfl (HOW.out _ (by (repeat (first | with_reducible assumption | with_reducible exact Ch.refl _ _ | with_reducible refine Ch.drew ?_ | with_reducible refine Ch.alloc ?_ _ | (with_reducible refine Ch.set' ?_ ?_; focus (first | (right; rfl; done) | (left; simp; done) | (left; simp; omega) | (left; omega) | (right; simp; done) | (right; simp; omega))))))) (by (repeat (first | (with_reducible refine Blk.new' ?_; first | rfl | (simp; done) | (simp; omega)) | with_reducible refine Blk.drew ?_ | with_reducible refine Blk.alloc ?_ _))) (by have := HYB.out.size; have := HBXy.out.lt; simp; omega) (by rw [HLN.out]; have := HH8.out; have := HLT.out; omega) ?_; intro g7 off7 cap7 w7 hown7 hgrow7 hg7; have hch7 : Ch (fun j => j = g) wy w7 := ((((Ch.refl (fun _ => False) wy).alloc (.cells #[.int .i64 (1 + 1024 * b + t)] 3)).drew).mono (fun j e => e.elim)).step (Ch.of_grown hgrow7) (fun j hj e => Option.some.inj (show some j = some g from e)); have hgg : some g = some g7 ∨ wy.heap.size ≤ g7 := hg7.imp (fun h => h) (fun h => by simp at h; omega); clear hg7 hgrow7; obtain ⟨z1, z2⟩ := (HBXy.out.ch hch7 (fun e => HG.out e.symm)).cells; have m1 := (HBXy.out.ch hch7 (fun e => HG.out e.symm)).lt)
              all_goals
                have hset := (Ch.refl (fun j => j = w.heap.size + 1 + 1 + 1) w7).set (p := ⟨w.heap.size + 1 + 1 + 1, 2, none⟩) (.inr rfl) (.slice (some ⟨g7, off7, none⟩) (k + 1 + 1) cap7)
                have hlo := HRO.out.own (g := g) rfl
                have hl3 := HBXy.out.lt
                have hbx7 := HBXy.out.ch hch7 (fun e => HG.out e.symm)
                have hw8 := hbx7.set 2 (.slice (some ⟨g7, off7, none⟩) (k + 1 + 1) cap7)
                rw [HLN.out, ← HTK.out] at hown7
                have hne7 : g7 ≠ w.heap.size + 1 + 1 + 1 := by
                  rcases hgg with h | h
                  · rw [← Option.some.inj h]; exact HG.out
                  · omega
                have hro8 := hown7.ch hset (fun q hq e => by simp [Value.ownBlock] at hq; omega)
                have hch8 : Ch (fun j => w.heap.size + 1 + 1 ≤ j) w4 _ := ((HCH.out.trans (Ch.of_below _ HYB.out)).step hch7 (fun j hj e => by omega)).step hset (fun j hj e => by omega)
                have HNX := Lib.hid (show ∀ j u, j < k + 1 → tags[j]? = some u → inB u = true ∧ 0 < u from fun j u hj hu => by
                  by_cases hjk : j = k
                  · subst hjk
                    rw [HP.out] at hu
                    cases hu
                    exact HTI.out
                  · exact HOK.out j u (by omega) hu)
                have HALL := Lib.hid (And.intro hw8 (And.intro hro8 (And.intro hne7 hch8)))
                clear hset hlo hl3 hbx7 hw8 hown7 hgg hch7 hne7 hro8 hch8 z1 z2 m1 q1 q2 l1 c0
                go_wp2_with fail
                go_roundw
                case rel => exact ⟨k + 1, g7, off7, cap7, (by first | rfl | (rw [HW2.out]; rfl)), HLT.out, HNX.out, by simpa using HALL.out.1, HALL.out.2.1, HALL.out.2.2.1, HALL.out.2.2.2⟩
                case measure => first | exact rt_meas HW2.out HLT.out | exact rt_meas2 HLT.out
        · have ht : decide ((k : Int) < (tags.length : Int)) = false := by simpa using hlt
          have ht2 : decide (tags.length ≤ k) = true := by simp; omega
          have ht3 : decide (k < tags.length) = false := by simpa using hlt
          obtain rfl : k = tags.length := by omega
          have HIN := Lib.hid (show ∀ t ∈ tags, inB t = true ∧ 0 < t from fun t hm => by
            obtain ⟨j, hj, rfl⟩ := List.getElem_of_mem hm
            exact HOK.out j _ hj (List.getElem?_eq_getElem hj))
          have HMR := Lib.hid (make_ref (b := b) (id := (ia, ib)) (data := data) HBB.out HH8.out HIN.out)
          have hvr : VRow (fun j => w.heap.size + 1 + 1 ≤ j) 1 intO wr (.slice (some ⟨g, off, none⟩) (tags.length + 1) cap) (refR b (ia, ib) tags data).tags := by
            have h := HRO.out
            rw [List.take_length] at h
            have hlo := (h.own (g := g) rfl).1
            exact VRow.of_own intO_len h (fun q hq => by have : q = g := Option.some.inj (show some q = some g from hq.symm); omega)
          have HVR := Lib.hid hvr
          have HRI := rright_any (refR b (ia, ib) tags data) _ wr hvr (by unfold refR; simp; have := HH8.out; omega)
          obtain ⟨rr, hrr⟩ : ∃ r, rightR (refR b (ia, ib) tags data) = r := ⟨_, rfl⟩
          have HRR := Lib.hid hrr
          rw [hrr] at HRI
          unfold recV refR at HRI
          simp only at HRI
          have HRI := Lib.hid HRI
          obtain ⟨q1, q2⟩ := HBX.out.cells
          have l1 := HBX.out.lt
          clear hvr hrr
          go_wp2_with fail
          refine HRI.out.mono ?_
          rintro e w6 ⟨rfl, hb6⟩
          have HR6 := Lib.hid (HR1r.out.below hb6)
          have HBX6 := Lib.hid (HBX.out.below hb6)
          have HB6 := Lib.hid (HBW.out.trans (hb6.mono HBW.out.size))
          have HV6 := Lib.hid (HVR.out.below hb6)
          obtain ⟨z1, z2⟩ := HR6.out.cells
          have m1 := HR6.out.lt
          obtain ⟨z3, z4⟩ := HBX6.out.cells
          have m2 := HBX6.out.lt
          clear hb6 q1 q2 l1 HRI
          cases rr with
          | false =>
            go_wp2_with fail
            obtain ⟨w', hw', r1, hch, hz⟩ := set4 HR6.out (.int .i64 0) (.int .i64 0) (.slice none 0 0) (.string ⟨#[]⟩)
            rw [← hw']
            clear hw'
            obtain ⟨f1, _⟩ := r1.cells
            refine bodyPost_ret (v := .tuple #[.agg #[.int .i64 0, .int .i64 0, .slice none 0 0, .string ⟨#[]⟩], .int .i64 1]) (by simp [results, Try.results20, go_sem, f1]) rfl ?_
            rw [HMR.out, if_neg (by rw [HRR.out]; simp)]
            exact HNO.out _ (Ch.below ((Ch.of_below (fun _ => False) HB6.out).step hch (fun j hj e => by omega)))
          | true =>
            go_wp2_with fail
            obtain ⟨w', hw', r1, hch, hz⟩ := set4 HR6.out (.int .i64 ia) (.int .i64 ib) (.slice (some ⟨g, off, none⟩) (tags.length + 1) cap) (.string data)
            rw [← hw']
            clear hw'
            obtain ⟨f1, _⟩ := r1.cells
            refine bodyPost_ret (v := .tuple #[.agg #[.int .i64 ia, .int .i64 ib, .slice (some ⟨g, off, none⟩) (tags.length + 1) cap, .string data], .int .i64 0]) (by simp [results, Try.results20, go_sem, f1]) rfl ?_
            rw [HMR.out, if_pos HRR.out]
            exact ⟨_, rfl, (HV6.out.ch hch (fun k hk e => by omega)).mono fun k _ hk => by omega, Ch.below ((Ch.of_below (fun _ => False) HB6.out).step hch (fun j hj e => by omega))⟩
end Go.Proofs.Ytpdibjaeopcimaa
