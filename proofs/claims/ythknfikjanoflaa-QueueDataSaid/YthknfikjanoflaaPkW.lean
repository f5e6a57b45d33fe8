/- pack.Num: a number behind a row of bytes of the call's own. -/
import Derived.Test.YthknfikjanoflaaPkN
import Derived.Lib.EndianBits
import Derived.Deep.AppendLies
set_option linter.unusedVariables false
set_option linter.unusedSimpArgs false
namespace Go.Proofs.Ythknfikjanoflaa
open Go.RowKit

/-- A row of bytes of the call's own. -/
def BRow (w : World) (base : Nat) (v : Value) (bs : List Nat) : Prop := w.ownsRow base 5 1 v bs.length (bs.map by8)

theorem BRow.ch {w w1 : World} {base : Nat} {v : Value} {bs : List Nat} {S : Nat → Prop} (h : BRow w base v bs) (hc : Ch S w w1) (hv : ∀ g, v.ownBlock = some g → ¬ S g) : BRow w1 base v bs :=
  ⟨h.1, by
    rcases h.2 with h2 | ⟨g, cap, cur, e, hg, hh, r⟩
    · exact .inl h2
    · exact .inr ⟨g, cap, cur, e, hg, (hc.block g (lt_of_block hh) (hv g (by rw [e]; rfl))).trans hh, r⟩⟩
theorem BRow.below {w w1 : World} {base : Nat} {v : Value} {bs : List Nat} (h : BRow w base v bs) (hb : Below w.heap.size w w1) : BRow w1 base v bs := h.ch (Ch.of_below (fun _ => False) hb) (fun _ _ => id)

/-- The document's bytes of a number. -/
def encN (n : Nat) : List Nat := if n < 128 then [n] else (n % 128 + 128) :: encN (n / 128)
termination_by n
decreasing_by omega

theorem encN_small {n : Nat} (h : n < 128) : encN n = [n] := by rw [encN, if_pos h]
theorem encN_big {n : Nat} (h : 128 ≤ n) : encN n = (n % 128 + 128) :: encN (n / 128) := by rw [encN, if_neg (by omega)]
theorem encN_len : ∀ (k n : Nat), n < 128 ^ (k + 1) → (encN n).length ≤ k + 1
  | 0, n, h => by rw [encN_small (by simpa using h)]; simp
  | k + 1, n, h => by
    by_cases hn : n < 128
    · rw [encN_small hn]; simp
    · rw [encN_big (by omega), List.length_cons]
      have := encN_len k (n / 128) (by rw [Nat.pow_succ] at h; omega)
      omega
theorem encN_pos (n : Nat) : 0 < (encN n).length := by
  by_cases hn : n < 128
  · rw [encN_small hn]; simp
  · rw [encN_big (by omega)]; simp

theorem infoByte : (Try.prog.info? 5).map (fun i => (i.zero, i.size, i.bytes)) = some (some (.int .u8 0), 1, 1) := by kernel_rfl
set_option maxRecDepth 100000 in
theorem or128 (n : Nat) : bits BinOp.or IntKind.u8 ((n : Int) % 256) 128 = ((n % 128 + 128 : Nat) : Int) := by
  have : ∀ x : Fin 256, bits BinOp.or IntKind.u8 ((x.1 : Nat) : Int) 128 = ((x.1 % 128 + 128 : Nat) : Int) := by decide
  have h := this ⟨n % 256, by omega⟩
  simp only at h
  rw [show n % 256 % 128 = n % 128 by omega] at h
  exact_mod_cast h

/-- Behind an append of one byte. -/
theorem BRow.push {w5 : World} {base g5 cap5 : Nat} {xs ys : List Nat} {x : Nat} (h : w5.ownsRow base 5 1 (.slice (some ⟨g5, 0, none⟩) (xs.length + ys.length + 1) cap5) (xs.length + ys.length + 1) (xs.map by8 ++ (ys.map by8 ++ [.int .u8 (x : Int)]))) :
    BRow w5 base (.slice (some ⟨g5, 0, none⟩) (xs.length + ys.length + 1) cap5) (xs ++ (ys ++ [x])) := by
  unfold BRow
  rw [List.length_append, List.length_append, List.map_append, List.map_append, ← Nat.add_assoc]
  exact h
theorem own_push {w w0 : World} {g5 cap5 n : Nat} {u v : Value} (hg : ∀ g, u.ownBlock = some g → v.ownBlock = some g ∨ w0.heap.size ≤ g) (hw : w0.heap.size ≤ w.heap.size) (hg5 : u.ownBlock = some g5 ∨ g5 = w.heap.size + 1) :
    ∀ g, (Value.slice (some ⟨g5, 0, none⟩) n cap5).ownBlock = some g → v.ownBlock = some g ∨ w0.heap.size ≤ g := by
  intro g e
  obtain rfl : g5 = g := by simpa [Value.ownBlock] using e
  rcases hg5 with h | h
  · exact hg _ h
  · exact .inr (by omega)
theorem ch_push {w w0 w5 : World} {u v : Value} {o : Obj} (hc : Ch (fun k => v.ownBlock = some k) w0 w) (hg : ∀ g, u.ownBlock = some g → v.ownBlock = some g ∨ w0.heap.size ≤ g) (hgrow : (w.alloc o).grownBy w5 u.ownBlock) : Ch (fun k => v.ownBlock = some k) w0 w5 :=
  (hc.alloc o).step (Ch.of_grown hgrow) (fun k hk e => by
    rcases hg k e.symm with h | h
    · exact h
    · omega)

/-- At the head of Num's inner loop: m is still to write. -/
def EncAt (w0 : World) (base : Nat) (v : Value) (pre : List Nat) (n : Nat) (gk : Nat) (v0 v7 : Value) (w : World) : Prop :=
  ∃ done, v7 = .int .i64 (gk : Nat) ∧ encN n = done ++ encN gk ∧ BRow w base v0 (pre ++ done) ∧ (∀ g, v0.ownBlock = some g → v.ownBlock = some g ∨ w0.heap.size ≤ g) ∧ Ch (fun k => v.ownBlock = some k) w0 w

/-- What Num does. -/
def EncPost (base : Nat) (v : Value) (pre : List Nat) (n : Nat) (w : World) (e : Ending) (w' : World) : Prop :=
  ∃ v', e = .returned (.tuple #[v', .bool true]) ∧ BRow w' base v' (pre ++ encN n) ∧ (∀ g, v'.ownBlock = some g → v.ownBlock = some g ∨ w.heap.size ≤ g) ∧ Ch (fun k => v.ownBlock = some k) w w'

set_option maxRecDepth 100000 in
theorem enc_bad (b : Nat) (v : Value) (n : Int) (w : World) (h : Blk w b #[.int .i64 n] 3) (hn : (decide (0 ≤ n) && decide (n ≤ 4611686018427387904)) = false) :
    Calls Try.prog 28 #[v, .slice (some ⟨b, 0, none⟩) 1 1] w fun e w' => e = .returned (.tuple #[v, .bool false]) ∧ Below w.heap.size w w' := by
  have HR := right_one b n _ w h
  rw [hn] at HR
  have HR' := Lib.hid HR
  clear HR h hn
  go_enter Try.func28, Try.ntmps28
  go_wp2_with fail
  refine HR'.out.mono ?_
  rintro e w1 ⟨rfl, hb1⟩
  go_wp2_with fail
  exact bodyPost_ret (v := .tuple #[v, .bool false]) (by simp [results, Try.results28, go_sem]) rfl ⟨rfl, hb1⟩

set_option maxRecDepth 100000 in
set_option maxHeartbeats 4000000 in
theorem enc_ok (base b : Nat) (v : Value) (pre : List Nat) (n : Nat) (w : World) (h : Blk w b #[.int .i64 (n : Int)] 3) (hv : BRow w base v pre) (hbase : base ≤ w.heap.size) (hn : n ≤ 4611686018427387904) (hpre : pre.length ≤ 140737488351232) :
    Calls Try.prog 28 #[v, .slice (some ⟨b, 0, none⟩) 1 1] w (EncPost base v pre n w) := by
  have HR := right_one b (n : Int) _ w h
  rw [show (decide (0 ≤ (n : Int)) && decide ((n : Int) ≤ 4611686018427387904)) = true by simp; omega] at HR
  have HR' := Lib.hid HR
  have HV := Lib.hid hv
  have H := Lib.hid h
  have hE9 : (encN n).length ≤ 9 := encN_len 8 n (by omega)
  clear HR h hv
  go_enter Try.func28, Try.ntmps28
  go_wp2_with fail
  refine HR'.out.mono ?_
  rintro e w1 ⟨rfl, hb1⟩
  have HV1 := Lib.hid (HV.out.below hb1)
  have hC1 := Lib.hid (Ch.of_below (fun k => v.ownBlock = some k) hb1)
  obtain ⟨q1, q2⟩ := (H.out.below hb1).cells
  clear H HV HR' hb1
  go_wp2_with fail
  refine wp_loop_rounds 2 ?_
  rw [rounds_succ]
  go_wp2_with fail
  go_loopg [0, 7] n (fun gk v0 v7 wr => EncAt w base v pre n gk v0 v7 wr)
  case atStart => exact ⟨[], rfl, rfl, by simpa using HV1.out, fun g hg => .inl hg, hC1.out⟩
  case round =>
    obtain ⟨done, rfl, hdone, R, hg, C⟩ := hrel
    have HR := Lib.hid R
    have HC := Lib.hid C
    have HD := Lib.hid hdone
    have HG := Lib.hid hg
    have hlen : (pre ++ done).length ≤ 140737488351242 := by
      have := congrArg List.length hdone
      rw [List.length_append] at this ⊢
      omega
    have hw := C.size
    clear R C hdone hg q1 q2 HV1 hC1
    obtain ⟨i0, hinfo, hz0, hz1, hz2⟩ := info_parts infoByte
    by_cases hm : gk < 128
    · have hm1 : decide ((gk : Int) < 128) = true := by simp; omega
      have hm2 : decide (128 ≤ (gk : Int)) = false := by simp; omega
      have hm3 : (gk : Int) % 256 = (gk : Int) := by omega
      have HO := Lib.hid (HR.out.below (below1 wr (.cells #[.int .u8 (gk : Int)] 5)))
      go_wp2_with (at_builtin; refine wpList_append_lies _ rfl (.tmp 28) (.tmp 31) 51 rfl base 5 i0 (.int .u8 0) 1 1 Try.underlying51 hinfo hz0 hz1 hz2 rfl (by decide) _ _ _ rfl HO.out ⟨wr.heap.size, 0, none⟩ 1 1 [.int .u8 (gk : Int)] rfl rfl ?c1 ?c2 (by decide) ?c3 ?c4 ?c5 (wr.heap.size + 1) (by simp) ?_)
      case c1 => exact World.news_of_block (cs := #[.int .u8 (gk : Int)]) (Blk.new wr _ _)
      case c2 => intro u hu; simp at hu; subst hu; rfl
      case c3 => unfold maxLen; omega
      case c4 => omega
      case c5 => simp; omega
      intro g5 cap5 w5 hown5 hgrow hg5 hlt5
      have HO5 := Lib.hid hown5
      have HG5 := Lib.hid hgrow
      have HH5 := Lib.hid hg5
      clear hown5 hgrow hg5
      go_wp2_with fail
      rw [rounds_succ]
      go_wp2_with fail
      refine bodyPost_ret (v := .tuple #[.slice (some ⟨g5, 0, none⟩) (pre.length + done.length + 1) cap5, .bool true]) (by simp [results, Try.results28, go_sem]) rfl ⟨_, rfl, ?_, own_push HG.out hw HH5.out, ch_push HC.out HG.out HG5.out⟩
      rw [HD.out, encN_small hm]
      exact BRow.push HO5.out
    · have hm2 : decide (128 ≤ (gk : Int)) = true := by simp; omega
      obtain ⟨m2, hm2'⟩ : ∃ m2, m2 = gk % 128 + 128 := ⟨_, rfl⟩
      have hor := or128 gk
      rw [← hm2'] at hor
      have HM2 := Lib.hid hm2'
      clear hm2'
      have HO := Lib.hid (HR.out.below (below1 wr (.cells #[.int .u8 (m2 : Int)] 5)))
      go_wp2_with (at_builtin; refine wpList_append_lies _ rfl (.tmp 20) (.tmp 24) 51 rfl base 5 i0 (.int .u8 0) 1 1 Try.underlying51 hinfo hz0 hz1 hz2 rfl (by decide) _ _ _ rfl HO.out ⟨wr.heap.size, 0, none⟩ 1 1 [.int .u8 (m2 : Int)] rfl rfl ?c1 ?c2 (by decide) ?c3 ?c4 ?c5 (wr.heap.size + 1) (by simp) ?_)
      case c1 => exact World.news_of_block (cs := #[.int .u8 (m2 : Int)]) (Blk.new wr _ _)
      case c2 => intro u hu; simp at hu; subst hu; rfl
      case c3 => unfold maxLen; omega
      case c4 => omega
      case c5 => simp; omega
      intro g5 cap5 w5 hown5 hgrow hg5 hlt5
      have HO5 := Lib.hid hown5
      have HG5 := Lib.hid hgrow
      have HH5 := Lib.hid hg5
      clear hown5 hgrow hg5
      go_wp2_with fail
      go_roundg (gk / 128)
      case measure => omega
      case rel =>
        refine ⟨done ++ [m2], by simp, ?_, BRow.push HO5.out, own_push HG.out hw HH5.out, ch_push HC.out HG.out HG5.out⟩
        rw [HD.out, encN_big (by omega), HM2.out]
        simp
end Go.Proofs.Ythknfikjanoflaa
