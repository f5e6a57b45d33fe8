/- Texts and truths of pack, written and read; Num of a reader with an error. -/
import Derived.Test.YthknfikjanoflaaPkNum
import Derived.Test.YthknfikjanoflaaPkNew
import Derived.Lib.AppendStr
import Derived.Lib.BufferRead
set_option linter.unusedVariables false
set_option linter.unusedSimpArgs false
namespace Go.Proofs.Ythknfikjanoflaa
open Go.RowKit

/-- A string's bytes; a string of bytes. -/
def sB (s : ByteArray) : List Nat := s.data.toList.map UInt8.toNat
def bS (l : List Nat) : ByteArray := ⟨(l.map UInt8.ofNat).toArray⟩

theorem sB_length (s : ByteArray) : (sB s).length = s.size := by unfold sB; rw [List.length_map, Array.length_toList]; rfl
theorem sB_lt (s : ByteArray) : ∀ b ∈ sB s, b < 256 := by
  intro b hb
  obtain ⟨x, _, rfl⟩ := List.mem_map.1 hb
  exact x.toNat_lt
theorem bS_sB (s : ByteArray) : bS (sB s) = s := by
  unfold bS sB
  rw [List.map_map, show UInt8.ofNat ∘ UInt8.toNat = id from funext fun x => by simp, List.map_id]
theorem sB_bS {l : List Nat} (h : ∀ b ∈ l, b < 256) : sB (bS l) = l := by
  unfold bS sB
  simp only [List.map_map]
  conv => rhs; rw [← List.map_id l]
  apply List.map_congr_left
  intro b hb
  simp [Nat.mod_eq_of_lt (h b hb)]
theorem strCells_by8 (s : ByteArray) : Lib.strCells s = (sB s).map by8 := by
  unfold Lib.strCells sB
  rw [List.map_map]
  rfl

set_option maxRecDepth 100000 in
/-- Num of a reader with an error. -/
theorem num_err (r g : Nat) (bs : List Nat) (k : Nat) (e : Int) (limit : Int) (w : World) (h : Rd w r g bs k e) (he : e ≠ 0) :
    Calls Try.prog 33 #[.pointer (some ⟨r, 0, none⟩), .int .i64 limit] w fun x w' => x = .returned (.int .i64 0) ∧ Rd w' r g bs k e ∧ Ch (· = r) w w' := by
  have H1 := h.alloc (.cells #[.pointer (some ⟨r, 0, none⟩)] 56)
  have H2 := Blk.new w #[.pointer (some ⟨r, 0, none⟩)] 56
  have H3 := Lib.hid ((Ch.refl (· = r) w).alloc (.cells #[.pointer (some ⟨r, 0, none⟩)] 56))
  have HN := next_bad w.heap.size r g bs k e _ H1 H2 (.inl he)
  rw [if_neg he] at HN
  have HN' := Lib.hid HN
  have hmf : ∀ (fn : Fn) (first cap : Array Value) (w : World), (Instr.makeFunc fn first cap).run Try.prog w = .ok (.func fn first cap) w := fun _ _ _ _ => rfl
  clear h H1 H2 HN
  go_enter Try.func33, Try.ntmps33
  go_wp2_with fail
  go_step3
  go_wp2_with fail
  go_step3
  go_wp2_with fail
  refine wp_loop_rounds 1 ?_
  rw [rounds_succ]
  go_wp2_with fail
  refine HN'.out.mono ?_
  rintro x w2 ⟨rfl, R2, c2⟩
  have HR2 := Lib.hid R2
  have HC2 := Lib.hid (H3.out.trans c2)
  clear R2 c2 HN' H3
  go_wp2_with fail
  rw [Exit.noGoto_ret]
  go_ret
  exact ⟨rfl, HR2.out, HC2.out⟩

/-- What Text does. -/
def TextPost (base : Nat) (v : Value) (pre : List Nat) (s : ByteArray) (w : World) (e : Ending) (w' : World) : Prop :=
  ∃ v', e = .returned (.tuple #[v', .bool true]) ∧ BRow w' base v' (pre ++ (encN s.size ++ sB s)) ∧ Ch (fun k => v.ownBlock = some k) w w'

set_option maxRecDepth 100000 in
theorem text_bad (v : Value) (s : ByteArray) (w : World) (h : 65536 < s.size) :
    Calls Try.prog 29 #[v, .string s] w fun e w' => e = .returned (.tuple #[v, .bool false]) ∧ Below w.heap.size w w' := by
  have h1 : decide ((65536 : Int) < (s.size : Int)) = true := by simp; omega
  go_enter Try.func29, Try.ntmps29
  go_wp2_with fail
  exact bodyPost_ret (v := .tuple #[v, .bool false]) (by simp [results, Try.results29, go_sem]) rfl ⟨rfl, Below.refl _ _⟩

set_option maxRecDepth 100000 in
theorem text_ok (base : Nat) (v : Value) (pre : List Nat) (s : ByteArray) (w : World) (hv : BRow w base v pre) (hbase : base ≤ w.heap.size) (hs : s.size ≤ 65536) (hpre : pre.length + 65536 ≤ 140737488351232) :
    Calls Try.prog 29 #[v, .string s] w (TextPost base v pre s w) := by
  obtain ⟨i0, hinfo, hz0, hz1, hz2⟩ := info_parts infoByte
  have h1 : decide ((65536 : Int) < (s.size : Int)) = false := by simp; omega
  have hE9 : (encN s.size).length ≤ 9 := encN_len 8 s.size (by omega)
  have HE := Lib.hid (enc_ok base w.heap.size v pre s.size (w.alloc (.cells #[.int .i64 (s.size : Int)] 3)) (Blk.new w _ _) (hv.below (below1 w _)) (by simp; omega) (by omega) (by omega))
  clear hv
  go_enter Try.func29, Try.ntmps29
  go_wp2_with fail
  refine HE.out.mono ?_
  rintro e w2 ⟨v2, rfl, R2, hg2, c2⟩
  have HR2 := Lib.hid R2
  have HG2 := Lib.hid hg2
  have HC2 := Lib.hid (((Ch.refl (fun k => v.ownBlock = some k) w).alloc (.cells #[.int .i64 (s.size : Int)] 3)).trans (c2.mono fun _ e => e))
  have hw2 := HC2.out.size
  clear R2 hg2 c2 HE
  go_wp2_with (at_builtin; refine Lib.wpList_append_own_string _ rfl (.tmp 18) (.tmp 19) 51 9 rfl base 5 i0 Try.underlying51 Try.underlying9 hinfo hz0 hz1 hz2 _ _ _ rfl HR2.out s rfl ?c3 ?c4 ?c5 ?_)
  case c3 => unfold maxLen; simp; omega
  case c4 => simp; omega
  case c5 => omega
  intro v5 w5 hown5 hgrow _
  have HO5 := Lib.hid hown5
  have HG5 := Lib.hid hgrow
  clear hown5 hgrow
  go_wp2_with fail
  refine bodyPost_ret (v := .tuple #[v5, .bool true]) (by simp [results, Try.results29, go_sem]) rfl ⟨v5, rfl, ?_, HC2.out.step (Ch.of_grown HG5.out) (fun k hk e => ?_)⟩
  · have := HO5.out
    unfold BRow
    rw [strCells_by8] at this
    simpa [sB_length, Nat.add_assoc] using this
  · rcases HG2.out k e.symm with h | h
    · exact h
    · simp at h; omega

end Go.Proofs.Ythknfikjanoflaa
