/- pack.Num of any numbers. -/
import Derived.Test.YthknfikjanoflaaPkY
set_option linter.unusedVariables false
set_option linter.unusedSimpArgs false
namespace Go.Proofs.Ythknfikjanoflaa
open Go.RowKit

/-- The document's bytes of numbers. -/
def encL (ms : List Nat) : List Nat := (ms.map encN).flatten
theorem encL_snoc (ms : List Nat) (m : Nat) : encL (ms ++ [m]) = encL ms ++ encN m := by simp [encL]
def nums (ms : List Nat) : Array Value := (ms.map fun m : Nat => Value.int .i64 (m : Int)).toArray

/-- right's loop. -/
def RightIn (w : World) (n : Nat) (v : Value) (wi : World) : Prop := ∃ j, j ≤ n ∧ v = .int .i64 (j : Nat) ∧ Ch (fun _ => False) w wi
set_option maxRecDepth 100000 in
theorem right_all (b : Nat) (ms : List Nat) (t : Nat) (w : World) (h : Blk w b (nums ms) t) (hm : ∀ m ∈ ms, m ≤ 4611686018427387904) (hl : ms.length ≤ 1000) :
    Calls Try.prog 42 #[.slice (some ⟨b, 0, none⟩) ms.length ms.length] w fun x w' => x = .returned (.bool true) ∧ Below w.heap.size w w' := by
  have H := Lib.hid h
  have HM := Lib.hid hm
  clear h hm
  go_enter Try.func42, Try.ntmps42
  go_wp2_with fail
  go_loopw [7] (fun v7 wi => RightIn w ms.length v7 wi) (fun i _ => ms.length - (intOf i).toNat)
  case atStart => exact ⟨0, Nat.zero_le _, rfl, Ch.refl _ _⟩
  case round =>
    obtain ⟨j, hj, rfl, C5⟩ := hrel
    have KC := Lib.hid C5
    clear C5
    by_cases hlt : j < ms.length
    · have ht : decide ((j : Int) < (ms.length : Int)) = true := by simpa using hlt
      have ht2 : decide (ms.length ≤ j) = false := by simpa using hlt
      obtain ⟨m, hp⟩ : ∃ m, ms[j]? = some m := ⟨_, List.getElem?_eq_getElem hlt⟩
      have hml := HM.out m (List.mem_of_getElem? hp)
      have q0 : wr.cell? ⟨b, j, none⟩ = some (.int .i64 (m : Int)) := by
        rw [(H.out.below KC.out.below).cell]
        simp [nums, hp]
      have t0 : decide ((m : Int) < 0) = false := by simp
      have t1 : decide ((4611686018427387904 : Int) < (m : Int)) = false := by simp; omega
      go_wp2_with fail
      go_roundw
      case rel => exact ⟨j + 1, hlt, by simp, KC.out⟩
      case measure => simp only [intOf]; omega
    · have ht : decide ((j : Int) < (ms.length : Int)) = false := by simpa using hlt
      have ht2 : decide (ms.length ≤ j) = true := by simp; omega
      go_wp2_with fail
      go_ret
      exact ⟨rfl, KC.out.below⟩

/-- Num's outer loop: j numbers are written. -/
def EncsIn (w0 : World) (base : Nat) (v : Value) (pre : List Nat) (ms : List Nat) (v0 v14 : Value) (w : World) : Prop :=
  ∃ j u, u = v0 ∧ j ≤ ms.length ∧ v14 = .int .i64 (j : Nat) ∧ BRow w base u (pre ++ encL (ms.take j)) ∧ (∀ g, u.ownBlock = some g → v.ownBlock = some g ∨ w0.heap.size ≤ g) ∧ Ch (fun k => v.ownBlock = some k) w0 w
/-- What Num does. -/
def EncLPost (base : Nat) (v : Value) (pre : List Nat) (ms : List Nat) (w : World) (e : Ending) (w' : World) : Prop :=
  ∃ v', e = .returned (.tuple #[v', .bool true]) ∧ BRow w' base v' (pre ++ encL ms) ∧ (∀ g, v'.ownBlock = some g → v.ownBlock = some g ∨ w.heap.size ≤ g) ∧ Ch (fun k => v.ownBlock = some k) w w'
theorem encL_len : ∀ ms : List Nat, (∀ m ∈ ms, m ≤ 4611686018427387904) → (encL ms).length ≤ 9 * ms.length
  | [], _ => by simp [encL]
  | m :: ms, h => by
    have h1 := encL_len ms (fun x hx => h x (by simp [hx]))
    have h2 := encN_len 8 m (by have := h m (by simp); omega)
    have h3 : encL (m :: ms) = encN m ++ encL ms := by simp [encL]
    rw [h3, List.length_append]
    simp only [List.length_cons]
    omega

set_option maxRecDepth 100000 in
set_option maxHeartbeats 8000000 in
theorem encs_ok (base b : Nat) (v : Value) (pre : List Nat) (ms : List Nat) (w : World) (h : Blk w b (nums ms) 3) (hv : BRow w base v pre) (hbase : base ≤ w.heap.size) (hb : v.ownBlock ≠ some b) (hm : ∀ m ∈ ms, m ≤ 4611686018427387904) (hl : ms.length ≤ 1000) (hpre : pre.length ≤ 140737488341232) :
    Calls Try.prog 28 #[v, .slice (some ⟨b, 0, none⟩) ms.length ms.length] w (EncLPost base v pre ms w) := by
  have HR' := Lib.hid (right_all b ms _ w h hm hl)
  have HV := Lib.hid hv
  have H := Lib.hid h
  have HM := Lib.hid hm
  have HB := Lib.hid hb
  clear h hv hm hb
  go_enter Try.func28, Try.ntmps28
  go_wp2_with fail
  refine HR'.out.mono ?_
  rintro e w1 ⟨rfl, hb1⟩
  have HV1 := Lib.hid (HV.out.below hb1)
  have hC1 := Lib.hid (Ch.of_below (fun k => v.ownBlock = some k) hb1)
  clear HV HR' hb1
  go_wp2_with fail
  go_loopw [0, 14] (fun v0 v14 wi => EncsIn w base v pre ms v0 v14 wi) (fun _ i _ => ms.length - (intOf i).toNat)
  case atStart => exact ⟨0, v, rfl, Nat.zero_le _, rfl, by simpa [encL] using HV1.out, fun g hg => .inl hg, hC1.out⟩
  case round =>
    obtain ⟨j, u, rfl, hj, rfl, R, hg, C⟩ := hrel
    have KR := Lib.hid R
    have KG := Lib.hid hg
    have KC := Lib.hid C
    clear R hg C HV1 hC1
    by_cases hlt : j < ms.length
    · have ht : decide ((j : Int) < (ms.length : Int)) = true := by simpa using hlt
      have ht2 : decide (ms.length ≤ j) = false := by simpa using hlt
      obtain ⟨n, hp⟩ : ∃ n, ms[j]? = some n := ⟨_, List.getElem?_eq_getElem hlt⟩
      have hml := HM.out n (List.mem_of_getElem? hp)
      have q0 : wr.cell? ⟨b, j, none⟩ = some (.int .i64 (n : Int)) := by
        rw [(H.out.ch KC.out HB.out).cell]
        simp [nums, hp]
      have HS := Lib.hid (encL_snoc (ms.take j) n)
      rw [show ms.take j ++ [n] = ms.take (j + 1) by rw [List.take_add_one, hp]; rfl] at HS
      have hE9 : (encN n).length ≤ 9 := encN_len 8 n (by omega)
      have hP : (encL (ms.take j)).length ≤ 9000 := by
        have h1 := encL_len (ms.take j) (fun m h => HM.out m (List.mem_of_mem_take h))
        have h2 : (ms.take j).length ≤ 1000 := by rw [List.length_take]; omega
        omega
      obtain ⟨pr, hpr⟩ : ∃ pr, pr = pre ++ encL (ms.take j) := ⟨_, rfl⟩
      have hprl : pr.length ≤ 140737488351232 := by rw [hpr, List.length_append]; omega
      rw [← hpr] at KR
      have HPR := Lib.hid hpr
      clear hpr hP
      go_wp2_with fail
      go_loopg [0, 7] n (fun gk v0 v7 wr => EncAt w base v pr n gk v0 v7 wr)
      case atStart => exact ⟨[], rfl, rfl, by rw [List.append_nil]; exact KR.out, KG.out, KC.out⟩
      case round =>
        obtain ⟨done, rfl, hdone, R, hg, C⟩ := hrel
        have HR := Lib.hid R
        have HC := Lib.hid C
        have HD := Lib.hid hdone
        have HG := Lib.hid hg
        have hlen : (pr ++ done).length ≤ 140737488351242 := by
          have := congrArg List.length hdone
          rw [List.length_append] at this ⊢
          omega
        have hw := C.size
        clear R C hdone hg q0 KR KG KC
        obtain ⟨i0, hinfo, hz0, hz1, hz2⟩ := info_parts infoByte
        by_cases hm : gk < 128
        · have hm1 : decide ((gk : Int) < 128) = true := by simp; omega
          have hm2 : decide (128 ≤ (gk : Int)) = false := by simp; omega
          have hm3 : (gk : Int) % 256 = (gk : Int) := by omega
          have HO := Lib.hid (HR.out.below (below1 wr (.cells #[.int .u8 (gk : Int)] 5)))
          go_wp2_with (at_builtin; refine wpList_append_lies _ rfl (.tmp 28) (.tmp 31) 51 rfl base 5 i0 (.int .u8 0) 1 1 Try.underlying51 hinfo hz0 hz1 hz2 rfl (by decide) _ _ _ rfl HO.out ⟨wr.heap.size, 0, none⟩ 1 1 [.int .u8 (gk : Int)] rfl rfl ?c1 ?c2 (by decide) ?c3 ?c4 ?c5 (wr.heap.size + 1) (by simp) ?_)
          case c1 => exact World.news_of_block (cs := #[.int .u8 (gk : Int)]) (Blk.new wr _ _)
          case c2 => intro u hu; simp at hu; subst hu; rfl
          case c3 => unfold maxLen; omega
          case c4 => omega
          case c5 => simp; omega
          intro g5 cap5 w5 hown5 hgrow hg5 hlt5
          have HO5 := Lib.hid hown5
          have HG5 := Lib.hid hgrow
          have HH5 := Lib.hid hg5
          clear hown5 hgrow hg5
          go_wp2_with fail
          go_roundw
          case rel =>
            refine ⟨j + 1, _, rfl, hlt, by simp, ?_, own_push HG.out hw HH5.out, ch_push HC.out HG.out HG5.out⟩
            rw [HS.out, ← List.append_assoc, ← HPR.out, HD.out, encN_small hm]
            exact BRow.push HO5.out
          case measure => simp only [intOf]; omega
        · have hm2 : decide (128 ≤ (gk : Int)) = true := by simp; omega
          obtain ⟨m2, hm2'⟩ : ∃ m2, m2 = gk % 128 + 128 := ⟨_, rfl⟩
          have hor := or128 gk
          rw [← hm2'] at hor
          have HM2 := Lib.hid hm2'
          clear hm2'
          have HO := Lib.hid (HR.out.below (below1 wr (.cells #[.int .u8 (m2 : Int)] 5)))
          go_wp2_with (at_builtin; refine wpList_append_lies _ rfl (.tmp 20) (.tmp 24) 51 rfl base 5 i0 (.int .u8 0) 1 1 Try.underlying51 hinfo hz0 hz1 hz2 rfl (by decide) _ _ _ rfl HO.out ⟨wr.heap.size, 0, none⟩ 1 1 [.int .u8 (m2 : Int)] rfl rfl ?c1 ?c2 (by decide) ?c3 ?c4 ?c5 (wr.heap.size + 1) (by simp) ?_)
          case c1 => exact World.news_of_block (cs := #[.int .u8 (m2 : Int)]) (Blk.new wr _ _)
          case c2 => intro u hu; simp at hu; subst hu; rfl
          case c3 => unfold maxLen; omega
          case c4 => omega
          case c5 => simp; omega
          intro g5 cap5 w5 hown5 hgrow hg5 hlt5
          have HO5 := Lib.hid hown5
          have HG5 := Lib.hid hgrow
          have HH5 := Lib.hid hg5
          clear hown5 hgrow hg5
          go_wp2_with fail
          go_roundg (gk / 128)
          case measure => omega
          case rel =>
            refine ⟨done ++ [m2], by simp, ?_, BRow.push HO5.out, own_push HG.out hw HH5.out, ch_push HC.out HG.out HG5.out⟩
            rw [HD.out, encN_big (by omega), HM2.out]
            simp
    · have ht : decide ((j : Int) < (ms.length : Int)) = false := by simpa using hlt
      have ht2 : decide (ms.length ≤ j) = true := by simp; omega
      have KR2 := KR.out
      rw [show j = ms.length by omega, List.take_length] at KR2
      have HR2 := Lib.hid KR2
      clear KR KR2
      go_wp2_with fail
      exact bodyPost_ret (v := .tuple #[u, .bool true]) (by simp [results, Try.results28, go_sem]) rfl ⟨_, rfl, HR2.out, KG.out, KC.out⟩
end Go.Proofs.Ythknfikjanoflaa
