/- The flat type of a byte. -/
import Derived.Test.YtjilfmphdncapaaPkNew
set_option linter.unusedVariables false
set_option linter.unusedSimpArgs false
namespace Go.Proofs.Ytjilfmphdncapaa
theorem flatByte : Flat Try.prog 5 b1 (fun b => b < 256) :=
  Flat.iso (Flat.int Try.underlying5) (fun n : Int => n.toNat) (fun n h => by
    simp [Lit.wf, IntKind.min, IntKind.max, IntKind.bits, IntKind.signed] at h
    exact ⟨by simp only [b1, by8]; rw [Int.toNat_of_nonneg (by omega)], by omega⟩)
end Go.Proofs.Ytjilfmphdncapaa
