/- few and write of the pack laws. -/
import Derived.Test.YtlombcclglffgaaPkReads
set_option linter.unusedVariables false
set_option linter.unusedSimpArgs false
namespace Go.Proofs.Ytlombcclglffgaa
open Go.RowKit

/-- What a part is written as, and whether it is. -/
def partW (p : PartD) : List Nat × Bool :=
  if p.k = 0 then (if 0 ≤ p.n ∧ p.n ≤ 4611686018427387904 then (encN p.n.toNat, true) else ([], false))
  else if p.k = 1 then (if p.s.size ≤ 65536 then (encN p.s.size ++ sB p.s, true) else ([], false))
  else if p.k = 2 then ([p.is.toNat], true)
  else ([], true)
def writeF (ps : List PartD) : List Nat := (ps.map fun p => (partW p).1).flatten
def allW (ps : List PartD) : Bool := ps.all fun p => (partW p).2
/-- A bound of what is written; how much 'few' counts. -/
def room (ps : List PartD) : Nat := (ps.map fun p => p.s.size + 10).sum
def count (ps : List PartD) : Nat := ps.length + (ps.map fun p => p.s.size).sum

theorem partW_len (p : PartD) : (partW p).1.length ≤ p.s.size + 10 := by
  unfold partW
  split
  · split
    · rename_i h
      have := encN_len 8 p.n.toNat (by omega)
      simp only
      omega
    · simp
  · split
    · split
      · rename_i h
        have := encN_len 8 p.s.size (by omega)
        simp only [List.length_append, sB_length]
        omega
      · simp
    · split <;> simp
theorem partW_lt (p : PartD) : ∀ b ∈ (partW p).1, b < 256 := by
  unfold partW
  split
  · split
    · exact encN_lt _
    · simp
  · split
    · split
      · intro b hb
        rcases List.mem_append.1 hb with h | h
        · exact encN_lt _ b h
        · exact sB_lt _ b h
      · simp
    · split
      · intro b hb
        simp at hb
        subst hb
        cases p.is <;> simp
      · simp
theorem writeF_lt (ps : List PartD) : ∀ b ∈ writeF ps, b < 256 := by
  intro b hb
  unfold writeF at hb
  obtain ⟨l, hl, hb⟩ := List.mem_flatten.1 hb
  obtain ⟨p, _, rfl⟩ := List.mem_map.1 hl
  exact partW_lt p b hb
theorem writeF_cons (p : PartD) (ps : List PartD) : writeF (p :: ps) = (partW p).1 ++ writeF ps := by simp [writeF]
theorem writeF_len : ∀ ps : List PartD, (writeF ps).length ≤ room ps
  | [] => by simp [writeF]
  | p :: ps => by
    have h1 := partW_len p
    have h2 := writeF_len ps
    have h3 : room (p :: ps) = p.s.size + 10 + room ps := by simp [room]
    rw [writeF_cons, List.length_append]
    omega
theorem length_room : ∀ ps : List PartD, ps.length ≤ room ps
  | [] => by simp
  | p :: ps => by
    have h2 := length_room ps
    have h3 : room (p :: ps) = p.s.size + 10 + room ps := by simp [room]
    simp only [List.length_cons]
    omega
theorem take_snoc {α : Type} {l : List α} {j : Nat} {x : α} (h : l[j]? = some x) : l.take (j + 1) = l.take j ++ [x] := by
  rw [List.take_add_one, h]
  rfl
theorem writeF_snoc (l : List PartD) (p : PartD) : writeF (l ++ [p]) = writeF l ++ (partW p).1 := by simp [writeF]
theorem allW_snoc (l : List PartD) (p : PartD) : allW (l ++ [p]) = (allW l && (partW p).2) := by simp [allW]
theorem room_append (l r : List PartD) : room (l ++ r) = room l + room r := by simp [room]
theorem count_snoc (l : List PartD) (p : PartD) : count (l ++ [p]) = count l + p.s.size + 1 := by simp [count]; omega
theorem count_append (l r : List PartD) : count (l ++ r) = count l + count r := by simp [count]; omega
theorem room_take (ps : List PartD) (j : Nat) : room (ps.take j) ≤ room ps := by
  have h : room ps = room (ps.take j ++ ps.drop j) := by rw [List.take_append_drop]
  rw [h, room_append]
  omega
theorem count_take (ps : List PartD) (j : Nat) : count (ps.take j) ≤ count ps := by
  have h : count ps = count (ps.take j ++ ps.drop j) := by rw [List.take_append_drop]
  rw [h, count_append]
  omega

/-- few's loop. -/
def FewIn (w : World) (ps : List PartD) (v3 v10 : Value) (wi : World) : Prop :=
  ∃ j, j ≤ ps.length ∧ v10 = .int .i64 (j : Nat) ∧ v3 = .int .i64 ((ps.length + ((ps.take j).map fun p => p.s.size).sum : Nat) : Int) ∧ Ch (fun _ => False) w wi

set_option maxRecDepth 100000 in
set_option maxHeartbeats 4000000 in
theorem few_any (a : Option Addr) (cap : Nat) (ps : List PartD) (w : World) (ro : RowAt w a 5 PartD.out ps) (hc : count ps ≤ 140737488351232) :
    Calls Try.prog 17 #[.slice a ps.length cap] w fun e w' => e = .returned (.bool (decide (count ps ≤ 20000))) ∧ Below w.heap.size w w' := by
  have HRO := Lib.hid ro
  have HC := Lib.hid hc
  have hpl : ps.length ≤ 140737488351232 := by unfold count at hc; omega
  clear ro hc
  go_enter Try.func17, Try.ntmps17
  go_wp2_with fail
  go_loopw [3, 10] (fun v3 v10 wi => FewIn w ps v3 v10 wi) (fun _ i _ => ps.length - (intOf i).toNat)
  case atStart => exact ⟨0, Nat.zero_le _, rfl, by simp, Ch.refl _ _⟩
  case round =>
    obtain ⟨j, hj, rfl, rfl, C5⟩ := hrel
    have KC := Lib.hid C5
    clear C5
    by_cases hlt : j < ps.length
    · have ht : decide ((j : Int) < (ps.length : Int)) = true := by simpa using hlt
      have ht2 : decide (ps.length ≤ j) = false := by simpa using hlt
      obtain ⟨p, hp⟩ : ∃ p, ps[j]? = some p := ⟨_, List.getElem?_eq_getElem hlt⟩
      obtain ⟨b0, off, rfl, hb0, hcells⟩ := HRO.out j p hp
      have q0 : wr.cell? ⟨b0, off + j * 5, none⟩ = some (.int .i64 p.k) := (KC.out.below.cell (p := ⟨b0, _, none⟩) hb0).trans (hcells 0 _ rfl)
      have q1 : wr.cell? ⟨b0, off + j * 5 + 1, none⟩ = some (.int .i64 p.n) := (KC.out.below.cell (p := ⟨b0, _, none⟩) hb0).trans (hcells 1 _ rfl)
      have q2 : wr.cell? ⟨b0, off + j * 5 + 2, none⟩ = some (.int .i64 p.most) := (KC.out.below.cell (p := ⟨b0, _, none⟩) hb0).trans (hcells 2 _ rfl)
      have q3 : wr.cell? ⟨b0, off + j * 5 + 3, none⟩ = some (.string p.s) := (KC.out.below.cell (p := ⟨b0, _, none⟩) hb0).trans (hcells 3 _ rfl)
      have q4 : wr.cell? ⟨b0, off + j * 5 + 4, none⟩ = some (.bool p.is) := (KC.out.below.cell (p := ⟨b0, _, none⟩) hb0).trans (hcells 4 _ rfl)
      have hsum : ((ps.take (j + 1)).map fun p => p.s.size).sum = ((ps.take j).map fun p => p.s.size).sum + p.s.size := by rw [take_snoc hp]; simp
      have hle := count_take ps (j + 1)
      have hbig : ps.length + (((ps.take j).map fun p => p.s.size).sum + p.s.size) ≤ 2 * 140737488351232 := by
        have h1 : ((ps.take (j + 1)).map fun p => p.s.size).sum ≤ count (ps.take (j + 1)) := by unfold count; omega
        have h2 : ps.length ≤ count ps := by unfold count; omega
        have h3 := HC.out
        omega
      have HS := Lib.hid hsum
      obtain ⟨n0, hn0⟩ : ∃ n0, n0 = ps.length + ((ps.take j).map fun p => p.s.size).sum := ⟨_, rfl⟩
      have hbig2 : n0 + p.s.size ≤ 2 * 140737488351232 := by omega
      have hw : wrap64 ((n0 : Int) + (p.s.size : Int)) = ((n0 + p.s.size : Nat) : Int) := by unfold wrap64; omega
      rw [← hn0]
      have HN0 := Lib.hid hn0
      clear hcells hsum hle hbig hn0
      go_wp2_with fail
      go_roundw
      case rel => exact ⟨j + 1, hlt, by simp, by rw [HS.out, ← Nat.add_assoc, ← HN0.out]; simp, KC.out.alloc _⟩
      case measure =>
        simp only [intOf]
        omega
    · have ht : decide ((j : Int) < (ps.length : Int)) = false := by simpa using hlt
      have ht2 : decide (ps.length ≤ j) = true := by simp; omega
      have hj2 : j = ps.length := by omega
      rw [hj2, List.take_length]
      go_wp2_with fail
      go_ret
      refine ⟨?_, KC.out.below⟩
      show Ending.returned (.bool (decide ((ps.length : Int) + ((ps.map fun p => p.s.size).sum : Nat) ≤ 20000))) = _
      have hd : decide ((ps.length : Int) + ((ps.map fun p => p.s.size).sum : Nat) ≤ 20000) = decide (count ps ≤ 20000) := decide_eq_decide.2 (by unfold count; omega)
      rw [hd]

/-- write's loop. -/
def WriteIn (w : World) (ps : List PartD) (v4 v5 v11 : Value) (wi : World) : Prop :=
  ∃ j v, v = v4 ∧ j ≤ ps.length ∧ v11 = .int .i64 (j : Nat) ∧ v5 = .bool (allW (ps.take j)) ∧ BRow wi w.heap.size v (writeF (ps.take j)) ∧ Ch (fun _ => False) w wi
def WritePost (ps : List PartD) (w : World) (e : Ending) (w' : World) : Prop :=
  ∃ v, e = .returned (.tuple #[v, .bool (allW ps)]) ∧ BRow w' w.heap.size v (writeF ps) ∧ Below w.heap.size w w'

theorem BRow.own {w : World} {base : Nat} {v : Value} {bs : List Nat} (h : BRow w base v bs) : ∀ g, v.ownBlock = some g → base ≤ g := by
  intro g e
  rcases h.2 with ⟨hv, _⟩ | ⟨g', cap, cur, hv, hg, _⟩
  · subst hv
    simp [Value.ownBlock] at e
  · subst hv
    simp [Value.ownBlock] at e
    omega

set_option maxRecDepth 100000 in
set_option maxHeartbeats 8000000 in
theorem write_any (a : Option Addr) (cap : Nat) (ps : List PartD) (w : World) (ro : RowAt w a 5 PartD.out ps) (hc : room ps ≤ 70368744177664) :
    Calls Try.prog 18 #[.slice a ps.length cap] w (WritePost ps w) := by
  have HRO := Lib.hid ro
  have HC := Lib.hid hc
  have hpl : ps.length ≤ 70368744177664 := Nat.le_trans (length_room ps) hc
  clear ro hc
  go_enter Try.func18, Try.ntmps18
  go_wp2_with fail
  go_loopw [4, 5, 11] (fun v4 v5 v11 wi => WriteIn w ps v4 v5 v11 wi) (fun _ _ i _ => ps.length - (intOf i).toNat)
  case atStart => exact ⟨0, _, rfl, Nat.zero_le _, rfl, by simp [allW], by simpa [writeF] using BRow.nil w w.heap.size, Ch.refl _ _⟩
  case round =>
    obtain ⟨j, v4, rfl, hj, rfl, rfl, R5, C5⟩ := hrel
    have KC := Lib.hid C5
    have KR := Lib.hid R5
    clear C5 R5
    by_cases hlt : j < ps.length
    · have ht : decide ((j : Int) < (ps.length : Int)) = true := by simpa using hlt
      have ht2 : decide (ps.length ≤ j) = false := by simpa using hlt
      obtain ⟨p, hp⟩ : ∃ p, ps[j]? = some p := ⟨_, List.getElem?_eq_getElem hlt⟩
      obtain ⟨b0, off, rfl, hb0, hcells⟩ := HRO.out j p hp
      have q0 : wr.cell? ⟨b0, off + j * 5, none⟩ = some (.int .i64 p.k) := (KC.out.below.cell (p := ⟨b0, _, none⟩) hb0).trans (hcells 0 _ rfl)
      have q1 : wr.cell? ⟨b0, off + j * 5 + 1, none⟩ = some (.int .i64 p.n) := (KC.out.below.cell (p := ⟨b0, _, none⟩) hb0).trans (hcells 1 _ rfl)
      have q2 : wr.cell? ⟨b0, off + j * 5 + 2, none⟩ = some (.int .i64 p.most) := (KC.out.below.cell (p := ⟨b0, _, none⟩) hb0).trans (hcells 2 _ rfl)
      have q3 : wr.cell? ⟨b0, off + j * 5 + 3, none⟩ = some (.string p.s) := (KC.out.below.cell (p := ⟨b0, _, none⟩) hb0).trans (hcells 3 _ rfl)
      have q4 : wr.cell? ⟨b0, off + j * 5 + 4, none⟩ = some (.bool p.is) := (KC.out.below.cell (p := ⟨b0, _, none⟩) hb0).trans (hcells 4 _ rfl)
      have hsz : wr.heap.size < (wr.alloc (.cells #[.int .i64 p.k, .int .i64 p.n, .int .i64 p.most, .string p.s, .bool p.is] 38)).heap.size := by simp
      have P1 := Blk.new wr #[.int .i64 p.k, .int .i64 p.n, .int .i64 p.most, .string p.s, .bool p.is] 38
      have R1 := KR.out.below (below1 wr (.cells #[.int .i64 p.k, .int .i64 p.n, .int .i64 p.most, .string p.s, .bool p.is] 38))
      have C1 := KC.out.alloc (.cells #[.int .i64 p.k, .int .i64 p.n, .int .i64 p.most, .string p.s, .bool p.is] 38)
      have HW := Lib.hid (writeF_snoc (ps.take j) p)
      have HA := Lib.hid (allW_snoc (ps.take j) p)
      rw [← take_snoc hp] at HW HA
      have hlen : (writeF (ps.take j)).length ≤ 70368744177664 := Nat.le_trans (Nat.le_trans (writeF_len _) (room_take ps j)) HC.out
      obtain ⟨pre, hpre⟩ : ∃ pre, pre = writeF (ps.take j) := ⟨_, rfl⟩
      obtain ⟨al, hal⟩ : ∃ al, al = allW (ps.take j) := ⟨_, rfl⟩
      rw [← hpre] at HW hlen R1
      rw [← hal] at HA ⊢
      clear hal
      have hown := R1.own
      have hbase := C1.size
      have HP1 := Lib.hid P1
      have HR1 := Lib.hid R1
      have HC1 := Lib.hid C1
      clear P1 R1 C1 KR KC hcells
      by_cases h0 : p.k = 0
      · have t0 : (p.k == 0) = true := by simp [h0]
        by_cases hn : 0 ≤ p.n ∧ p.n ≤ 4611686018427387904
        · have HPW := Lib.hid (show partW p = (encN p.n.toNat, true) by unfold partW; rw [if_pos h0, if_pos hn])
          clear h0
          have hE0 := enc_ok w.heap.size (wr.heap.size + 1) v4 pre p.n.toNat ((wr.alloc (.cells #[.int .i64 p.k, .int .i64 p.n, .int .i64 p.most, .string p.s, .bool p.is] 38)).alloc (.cells #[.int .i64 (p.n.toNat : Int)] 3)) (Blk.new' (by simp)) (HR1.out.below (below1 _ _)) (by simp at hbase ⊢; omega) (by omega) (by omega)
          rw [Int.toNat_of_nonneg hn.1] at hE0
          have HE := Lib.hid hE0
          have HC2 := Lib.hid (HC1.out.alloc (.cells #[.int .i64 p.n] 3))
          clear hE0 HR1 HC1
          go_wp2_with fail
          refine HE.out.mono ?_
          rintro e w6 ⟨v1, rfl, R6, _, c6⟩
          have HR6 := Lib.hid R6
          have C6 := Lib.hid (HC2.out.step c6 (fun k hk e => by have := hown k e; omega))
          clear HE c6 R6 HC2
          cases al with
          | true =>
            go_wp2_with fail
            go_roundw
            case rel => exact ⟨j + 1, _, rfl, hlt, by simp, by rw [HA.out, HPW.out]; rfl, by rw [HW.out, HPW.out]; exact HR6.out, C6.out⟩
            case measure => simp only [intOf]; omega
          | false =>
            go_wp2_with fail
            go_roundw
            case rel => exact ⟨j + 1, _, rfl, hlt, by simp, by rw [HA.out, HPW.out]; rfl, by rw [HW.out, HPW.out]; exact HR6.out, C6.out⟩
            case measure => simp only [intOf]; omega
        · have HPW := Lib.hid (show partW p = ([], false) by unfold partW; rw [if_pos h0, if_neg hn])
          clear h0
          have hE0 := enc_bad (wr.heap.size + 1) v4 p.n ((wr.alloc (.cells #[.int .i64 p.k, .int .i64 p.n, .int .i64 p.most, .string p.s, .bool p.is] 38)).alloc (.cells #[.int .i64 p.n] 3)) (Blk.new' (by simp)) (by simp; omega)
          have HE := Lib.hid hE0
          have HC2 := Lib.hid (HC1.out.alloc (.cells #[.int .i64 p.n] 3))
          have HR2 := Lib.hid (HR1.out.below (below1 _ (.cells #[.int .i64 p.n] 3)))
          clear hE0 HR1 HC1
          go_wp2_with fail
          refine HE.out.mono ?_
          rintro e w6 ⟨rfl, hb6⟩
          have HR6 := Lib.hid (HR2.out.below hb6)
          have C6 := Lib.hid (HC2.out.call hb6)
          clear HE hb6 HR2 HC2
          cases al with
          | true =>
            go_wp2_with fail
            go_roundw
            case rel => exact ⟨j + 1, _, rfl, hlt, by simp, by rw [HA.out, HPW.out]; rfl, by rw [HW.out, HPW.out]; exact by rw [List.append_nil]; exact HR6.out, C6.out⟩
            case measure => simp only [intOf]; omega
          | false =>
            go_wp2_with fail
            go_roundw
            case rel => exact ⟨j + 1, _, rfl, hlt, by simp, by rw [HA.out, HPW.out]; rfl, by rw [HW.out, HPW.out]; exact by rw [List.append_nil]; exact HR6.out, C6.out⟩
            case measure => simp only [intOf]; omega
      by_cases h1 : p.k = 1
      · have t0 : (p.k == 0) = false := by simp [h0]
        have t1 : (p.k == 1) = true := by simp [h1]
        by_cases hn : p.s.size ≤ 65536
        · have HPW := Lib.hid (show partW p = (encN p.s.size ++ sB p.s, true) by unfold partW; rw [if_neg h0, if_pos h1, if_pos hn])
          clear h0 h1
          have HE := Lib.hid (text_ok w.heap.size v4 pre p.s (wr.alloc (.cells #[.int .i64 p.k, .int .i64 p.n, .int .i64 p.most, .string p.s, .bool p.is] 38)) HR1.out hbase hn (by omega))
          go_wp2_with fail
          refine HE.out.mono ?_
          rintro e w6 ⟨v1, rfl, R6, c6⟩
          have HR6 := Lib.hid R6
          have C6 := Lib.hid (HC1.out.step c6 (fun k hk e => by have := hown k e; omega))
          clear HE c6 R6 HC1 HR1
          cases al with
          | true =>
            go_wp2_with fail
            go_roundw
            case rel => exact ⟨j + 1, _, rfl, hlt, by simp, by rw [HA.out, HPW.out]; rfl, by rw [HW.out, HPW.out]; exact HR6.out, C6.out⟩
            case measure => simp only [intOf]; omega
          | false =>
            go_wp2_with fail
            go_roundw
            case rel => exact ⟨j + 1, _, rfl, hlt, by simp, by rw [HA.out, HPW.out]; rfl, by rw [HW.out, HPW.out]; exact HR6.out, C6.out⟩
            case measure => simp only [intOf]; omega
        · have HPW := Lib.hid (show partW p = ([], false) by unfold partW; rw [if_neg h0, if_pos h1, if_neg hn])
          clear h0 h1
          have HE := Lib.hid (text_bad v4 p.s (wr.alloc (.cells #[.int .i64 p.k, .int .i64 p.n, .int .i64 p.most, .string p.s, .bool p.is] 38)) (by omega))
          go_wp2_with fail
          refine HE.out.mono ?_
          rintro e w6 ⟨rfl, hb6⟩
          have HR6 := Lib.hid (HR1.out.below hb6)
          have C6 := Lib.hid (HC1.out.call hb6)
          clear HE hb6 HR1 HC1
          cases al with
          | true =>
            go_wp2_with fail
            go_roundw
            case rel => exact ⟨j + 1, _, rfl, hlt, by simp, by rw [HA.out, HPW.out]; rfl, by rw [HW.out, HPW.out]; exact by rw [List.append_nil]; exact HR6.out, C6.out⟩
            case measure => simp only [intOf]; omega
          | false =>
            go_wp2_with fail
            go_roundw
            case rel => exact ⟨j + 1, _, rfl, hlt, by simp, by rw [HA.out, HPW.out]; rfl, by rw [HW.out, HPW.out]; exact by rw [List.append_nil]; exact HR6.out, C6.out⟩
            case measure => simp only [intOf]; omega
      by_cases h2 : p.k = 2
      · have t0 : (p.k == 0) = false := by simp [h0]
        have t1 : (p.k == 1) = false := by simp [h1]
        have t2 : (p.k == 2) = true := by simp [h2]
        have HPW := Lib.hid (show partW p = ([p.is.toNat], true) by unfold partW; rw [if_neg h0, if_neg h1, if_pos h2])
        clear h0 h1 h2
        have HE := Lib.hid (bool_any w.heap.size v4 pre p.is (wr.alloc (.cells #[.int .i64 p.k, .int .i64 p.n, .int .i64 p.most, .string p.s, .bool p.is] 38)) HR1.out hbase (by omega))
        go_wp2_with fail
        refine HE.out.mono ?_
        rintro e w6 ⟨v1, rfl, R6, c6⟩
        have HR6 := Lib.hid R6
        have C6 := Lib.hid (HC1.out.step c6 (fun k hk e => by have := hown k e; omega))
        clear HE c6 R6 HC1 HR1
        cases al with
        | true =>
          go_wp2_with fail
          go_roundw
          case rel => exact ⟨j + 1, _, rfl, hlt, by simp, by rw [HA.out, HPW.out]; rfl, by rw [HW.out, HPW.out]; exact HR6.out, C6.out⟩
          case measure => simp only [intOf]; omega
        | false =>
          go_wp2_with fail
          go_roundw
          case rel => exact ⟨j + 1, _, rfl, hlt, by simp, by rw [HA.out, HPW.out]; rfl, by rw [HW.out, HPW.out]; exact HR6.out, C6.out⟩
          case measure => simp only [intOf]; omega
      · have t0 : (p.k == 0) = false := by simp [h0]
        have t1 : (p.k == 1) = false := by simp [h1]
        have t2 : (p.k == 2) = false := by simp [h2]
        have HPW := Lib.hid (show partW p = ([], true) by unfold partW; rw [if_neg h0, if_neg h1, if_neg h2])
        clear h0 h1 h2
        cases al with
        | true =>
          go_wp2_with fail
          go_roundw
          case rel => exact ⟨j + 1, _, rfl, hlt, by simp, by rw [HA.out, HPW.out]; rfl, by rw [HW.out, HPW.out]; exact by rw [List.append_nil]; exact HR1.out, HC1.out⟩
          case measure => simp only [intOf]; omega
        | false =>
          go_wp2_with fail
          go_roundw
          case rel => exact ⟨j + 1, _, rfl, hlt, by simp, by rw [HA.out, HPW.out]; rfl, by rw [HW.out, HPW.out]; exact by rw [List.append_nil]; exact HR1.out, HC1.out⟩
          case measure => simp only [intOf]; omega
    · have ht : decide ((j : Int) < (ps.length : Int)) = false := by simpa using hlt
      have ht2 : decide (ps.length ≤ j) = true := by simp; omega
      have hj2 : j = ps.length := by omega
      have KR2 := KR.out
      rw [hj2, List.take_length] at KR2 ⊢
      have HR2 := Lib.hid KR2
      clear KR KR2
      go_wp2_with fail
      exact bodyPost_ret (v := .tuple #[v4, .bool (allW ps)]) (by simp [results, Try.results18, go_sem]) rfl ⟨_, rfl, HR2.out, KC.out.below⟩
end Go.Proofs.Ytlombcclglffgaa
