/- The reader's Text, Bool and alive of the pack laws. -/
import Derived.Test.YtjilfmphdncapaaPkTy
set_option linter.unusedVariables false
set_option linter.unusedSimpArgs false
namespace Go.Proofs.Ytjilfmphdncapaa
open Go.RowKit

/-- What a reader with error e does for Num: number, bytes, error. -/
def numE (e limit : Int) (l : List Nat) : Nat × Nat × Int := if e = 0 then numF limit l else (0, 0, e)
def NumEPost (r g : Nat) (bs : List Nat) (k : Nat) (e limit : Int) (w : World) (x : Ending) (w' : World) : Prop :=
  x = .returned (.int .i64 ((numE e limit (bs.drop k)).1 : Nat)) ∧ Rd w' r g bs (k + (numE e limit (bs.drop k)).2.1) (numE e limit (bs.drop k)).2.2 ∧ Ch (· = r) w w'
theorem num_any (r g : Nat) (bs : List Nat) (k : Nat) (e limit : Int) (w : World) (h : Rd w r g bs k e) (hb : ∀ b ∈ bs, b < 256) (hlen : bs.length ≤ maxLen) :
    Calls Try.prog 35 #[.pointer (some ⟨r, 0, none⟩), .int .i64 limit] w (NumEPost r g bs k e limit w) := by
  unfold NumEPost numE
  by_cases he : e = 0
  · subst he
    simp only [if_true]
    exact num_ok r g bs k limit w h hb hlen
  · simp only [if_neg he]
    exact num_err r g bs k e limit w h he

/-- 'string' of bytes of a reader. -/
theorem string_of (src dst el : TypeId) {P : Program} (w : World) (g o n c : Nat) (bs : List Nat) (t : Nat) (h : Blk w g (bs.map by8).toArray t) (hb : ∀ b ∈ bs, b < 256) (hn : o + n ≤ bs.length)
    (hs : P.underlying src = some (.slice el)) (he : P.underlying el = some (.int .u8)) (hd : P.underlying dst = some .string) :
    (convert src dst (.slice (some ⟨g, o, none⟩) n c)).run P w = .ok (.string (bS ((bs.drop o).take n))) w := by
  have hl : (((bs.drop o).take n).map UInt8.ofNat).length = n := by simp; omega
  have := run_convert_bytes_back (P := P) w src dst el ⟨g, o, none⟩ c (((bs.drop o).take n).map UInt8.ofNat) hs he hd (by
    intro j hj
    rw [hl] at hj
    have hadd : (⟨g, o, none⟩ : Addr).add j = ⟨g, o + j, none⟩ := by
      unfold Addr.add
      split
      · rename_i h0; simp [h0]
      · rfl
    rw [hadd, h.cell]
    have h1 : bs[o + j]? = some bs[o + j] := List.getElem?_eq_getElem (by omega)
    have h2 := hb _ (List.mem_of_getElem? h1)
    simp [by8, Nat.mod_eq_of_lt h2]
    exact ⟨_, h1, rfl⟩)
  rw [hl] at this
  exact this

end Go.Proofs.Ytjilfmphdncapaa
