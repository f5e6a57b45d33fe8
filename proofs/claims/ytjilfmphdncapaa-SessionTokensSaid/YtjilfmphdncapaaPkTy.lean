/- Texts and truths of pack, written and read; Num of a reader with an error. -/
import Derived.Test.YtjilfmphdncapaaPkNum
import Derived.Test.YtjilfmphdncapaaPkNew
import Derived.Lib.AppendStr
import Derived.Lib.BufferRead
set_option linter.unusedVariables false
set_option linter.unusedSimpArgs false
namespace Go.Proofs.Ytjilfmphdncapaa
open Go.RowKit

/-- A string's bytes; a string of bytes. -/
def sB (s : ByteArray) : List Nat := s.data.toList.map UInt8.toNat
def bS (l : List Nat) : ByteArray := ⟨(l.map UInt8.ofNat).toArray⟩

theorem sB_length (s : ByteArray) : (sB s).length = s.size := by unfold sB; rw [List.length_map, Array.length_toList]; rfl
theorem sB_lt (s : ByteArray) : ∀ b ∈ sB s, b < 256 := by
  intro b hb
  obtain ⟨x, _, rfl⟩ := List.mem_map.1 hb
  exact x.toNat_lt
theorem bS_sB (s : ByteArray) : bS (sB s) = s := by
  unfold bS sB
  rw [List.map_map, show UInt8.ofNat ∘ UInt8.toNat = id from funext fun x => by simp, List.map_id]
theorem sB_bS {l : List Nat} (h : ∀ b ∈ l, b < 256) : sB (bS l) = l := by
  unfold bS sB
  simp only [List.map_map]
  conv => rhs; rw [← List.map_id l]
  apply List.map_congr_left
  intro b hb
  simp [Nat.mod_eq_of_lt (h b hb)]
theorem strCells_by8 (s : ByteArray) : Lib.strCells s = (sB s).map by8 := by
  unfold Lib.strCells sB
  rw [List.map_map]
  rfl

set_option maxRecDepth 100000 in
/-- Num of a reader with an error. -/
theorem num_err (r g : Nat) (bs : List Nat) (k : Nat) (e : Int) (limit : Int) (w : World) (h : Rd w r g bs k e) (he : e ≠ 0) :
    Calls Try.prog 35 #[.pointer (some ⟨r, 0, none⟩), .int .i64 limit] w fun x w' => x = .returned (.int .i64 0) ∧ Rd w' r g bs k e ∧ Ch (· = r) w w' := by
  have H1 := h.alloc (.cells #[.pointer (some ⟨r, 0, none⟩)] 76)
  have H2 := Blk.new w #[.pointer (some ⟨r, 0, none⟩)] 76
  have H3 := Lib.hid ((Ch.refl (· = r) w).alloc (.cells #[.pointer (some ⟨r, 0, none⟩)] 76))
  have HN := next_bad w.heap.size r g bs k e _ H1 H2 (.inl he)
  rw [if_neg he] at HN
  have HN' := Lib.hid HN
  have hmf : ∀ (fn : Fn) (first cap : Array Value) (w : World), (Instr.makeFunc fn first cap).run Try.prog w = .ok (.func fn first cap) w := fun _ _ _ _ => rfl
  clear h H1 H2 HN
  go_enter Try.func35, Try.ntmps35
  go_wp2_with fail
  go_step3
  go_wp2_with fail
  go_step3
  go_wp2_with fail
  refine wp_loop_rounds 1 ?_
  rw [rounds_succ]
  go_wp2_with fail
  refine HN'.out.mono ?_
  rintro x w2 ⟨rfl, R2, c2⟩
  have HR2 := Lib.hid R2
  have HC2 := Lib.hid (H3.out.trans c2)
  clear R2 c2 HN' H3
  go_wp2_with fail
  rw [Exit.noGoto_ret]
  go_ret
  exact ⟨rfl, HR2.out, HC2.out⟩

end Go.Proofs.Ytjilfmphdncapaa
