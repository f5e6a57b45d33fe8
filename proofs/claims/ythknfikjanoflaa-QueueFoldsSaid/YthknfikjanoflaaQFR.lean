/- The reference's taken, Takes and There. -/
import Derived.Test.YthknfikjanoflaaQF
set_option linter.unusedVariables false
set_option linter.unusedSimpArgs false
namespace Go.Proofs.Ythknfikjanoflaa
open Go.RowKit

def iO (n : Int) : List Value := [.int .i64 n]
def bO (b : Bool) : List Value := [.bool b]
theorem iO_len (n : Int) : (iO n).length = 1 := rfl
theorem bO_len (n : Bool) : (bO n).length = 1 := rfl
theorem iO_one (n : Int) : ∀ u ∈ iO n, u.oneCell' = true := fun u h => by rw [iO, List.mem_singleton] at h; rw [h]; rfl
theorem bO_one (n : Bool) : ∀ u ∈ bO n, u.oneCell' = true := fun u h => by rw [bO, List.mem_singleton] at h; rw [h]; rfl

/-- taken's loop. -/
def TakIn (w : World) (l : List Int) (n : Int) (v : Value) (wi : World) : Prop := ∃ k : Nat, k ≤ l.length ∧ v = .int .i64 (k : Nat) ∧ (l.take k).contains n = false ∧ Ch (fun _ => False) w wi
set_option maxRecDepth 100000 in
set_option maxHeartbeats 4000000 in
theorem taken_any (a : Option Addr) (cap : Nat) (l : List Int) (n : Int) (w : World) (base : Nat) (h : ORow 1 iO w base (.slice a l.length cap) l) (hl : l.length ≤ 4194304) :
    Calls Try.prog 41 #[.slice a l.length cap, .int .i64 n] w fun e w' => e = .returned (.bool (l.contains n)) ∧ Below w.heap.size w w' := by
  have HH := Lib.hid h
  obtain ⟨rr, hrr⟩ : ∃ r, l.contains n = r := ⟨_, rfl⟩
  rw [hrr]
  have HR := Lib.hid hrr
  clear h hrr
  go_enter Try.func41, Try.ntmps41
  go_wp2_with fail
  go_loopw [5] (fun v wi => TakIn w l n v wi) (fun v _ => l.length - (intOf v).toNat)
  case atStart => exact ⟨0, Nat.zero_le _, rfl, rfl, Ch.refl _ _⟩
  case round =>
    obtain ⟨k, hk, rfl, hnew, C2⟩ := hrel
    have KC := Lib.hid C2
    have KN := Lib.hid hnew
    clear hnew C2
    by_cases hlt : k < l.length
    · have ht : decide ((k : Int) < (l.length : Int)) = true := by simpa using hlt
      have ht2 : decide (l.length ≤ k) = false := by simpa using hlt
      obtain ⟨x, hx⟩ : ∃ x, l[k]? = some x := ⟨_, List.getElem?_eq_getElem hlt⟩
      obtain ⟨g, off, cap2, e1, hat⟩ := (HH.out.ch KC.out (fun _ _ => id)).at iO_len hx
      cases e1
      have q0 : wr.cell? ⟨g, off + k, none⟩ = some (.int .i64 x) := by simpa using hat 0 _ rfl
      have hk1 : wrap64 ((k : Int) + 1) = (k : Int) + 1 := IntWalk.wrap64_in _ (by omega)
      have htk : (l.take (k + 1)).contains n = (n == x) := by
        have := KN.out
        rw [List.take_add_one, hx]
        simp only [List.contains_eq_any_beq, List.any_append] at this ⊢
        rw [this]
        simp
      have HT := Lib.hid htk
      clear htk hat hx
      by_cases hs : x = n
      · subst hs
        have hn2 : l.contains x = true := by
          have := HT.out
          rw [beq_self_eq_true, List.contains_iff_mem] at this
          rw [List.contains_iff_mem]
          exact List.mem_of_mem_take this
        have hrf := HR.out.symm.trans hn2
        subst hrf
        clear hn2 HR
        go_wp2_with fail
        go_ret
        exact ⟨rfl, KC.out.below⟩
      · have h3 : (x == n) = false := by simpa using hs
        have KN2 := Lib.hid (show (l.take (k + 1)).contains n = false by rw [HT.out]; simpa using fun h => hs h.symm)
        clear HT hs
        go_wp2_with fail
        go_roundw
        case rel => exact ⟨k + 1, hlt, by simp, KN2.out, KC.out⟩
        case measure => simp only [intOf]; omega
    · have ht : decide ((k : Int) < (l.length : Int)) = false := by simpa using hlt
      have ht2 : decide (k < l.length) = false := by simpa using hlt
      have hrf : rr = false := by
        have := KN.out
        rw [show k = l.length by omega, List.take_length, HR.out] at this
        exact this
      subst hrf
      clear hlt
      go_wp2_with fail
      go_ret
      exact ⟨rfl, KC.out.below⟩

theorem infoB1 : (Try.prog.info? 4).map (fun i => (i.zero, i.size, i.bytes)) = some (some (.bool false), 1, 1) := by kernel_rfl
theorem infoI1 : (Try.prog.info? 3).map (fun i => (i.zero, i.size, i.bytes)) = some (some (.int .i64 0), 1, 8) := by kernel_rfl
/-- One Bool, one int, is appended. -/
theorem wpList_append_bool {w : World} {ops : Array Oper} {rest : List Oper} {o : Oper} {a : Act} {Q : Exit → Act → World → Prop} (hgd : o.guard = none) (s y : Operand)
    (ho : o.op = .call { callee := .builtin .append, args := #[s, y], argTypes := #[80, 80] }) {base p : Nat} {v : Value} {xs : List Bool} {x : Bool} (he : a.eval s = v) (hy : a.eval y = .slice (some ⟨p, 0, none⟩) 1 1)
    (hv : ORow 1 bO w base v xs) (hp : Blk w p #[.bool x] 4) (hbase : base ≤ w.heap.size) (hl : xs.length ≤ 4194304)
    (h : ∀ g off cap w', ORow 1 bO w' base (.slice (some ⟨g, off, none⟩) (xs.length + 1) cap) (xs ++ [x]) → w.grownBy w' v.ownBlock → (v.ownBlock = some g ∨ w.heap.size ≤ g) → wpList Try.prog ops Q rest (a.put o.dst (.slice (some ⟨g, off, none⟩) (xs.length + 1) cap)) w') : wpList Try.prog ops Q (o :: rest) a w := by
  obtain ⟨i0, hinfo, hz0, hz1, hz2⟩ := info_parts infoB1
  refine wpList_append_off bO_len bO_one (by decide) hgd s y 80 ho hv Try.underlying80 hinfo hz0 hz1 hz2 rfl he hy (x := x) ?_ hbase (by unfold maxLen; omega) (by omega) h
  intro j u hu
  rw [hp.cell]
  simpa [bO] using hu
theorem wpList_append_int {w : World} {ops : Array Oper} {rest : List Oper} {o : Oper} {a : Act} {Q : Exit → Act → World → Prop} (hgd : o.guard = none) (s y : Operand)
    (ho : o.op = .call { callee := .builtin .append, args := #[s, y], argTypes := #[35, 35] }) {base p : Nat} {v : Value} {xs : List Int} {x : Int} (he : a.eval s = v) (hy : a.eval y = .slice (some ⟨p, 0, none⟩) 1 1)
    (hv : ORow 1 iO w base v xs) (hp : Blk w p #[.int .i64 x] 3) (hbase : base ≤ w.heap.size) (hl : xs.length ≤ 4194304)
    (h : ∀ g off cap w', ORow 1 iO w' base (.slice (some ⟨g, off, none⟩) (xs.length + 1) cap) (xs ++ [x]) → w.grownBy w' v.ownBlock → (v.ownBlock = some g ∨ w.heap.size ≤ g) → wpList Try.prog ops Q rest (a.put o.dst (.slice (some ⟨g, off, none⟩) (xs.length + 1) cap)) w') : wpList Try.prog ops Q (o :: rest) a w := by
  obtain ⟨i0, hinfo, hz0, hz1, hz2⟩ := info_parts infoI1
  refine wpList_append_off iO_len iO_one (by decide) hgd s y 35 ho hv Try.underlying35 hinfo hz0 hz1 hz2 rfl he hy (x := x) ?_ hbase (by unfold maxLen; omega) (by omega) h
  intro j u hu
  rw [hp.cell]
  simpa [iO] using hu
end Go.Proofs.Ythknfikjanoflaa
