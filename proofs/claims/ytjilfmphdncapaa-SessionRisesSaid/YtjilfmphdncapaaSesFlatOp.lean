/- The flat type of a call of the session laws' scripts. -/
import Derived.Test.YtjilfmphdncapaaSesFlat
import Derived.Test.YtjilfmphdncapaaSesAllW
set_option linter.unusedVariables false
set_option linter.unusedSimpArgs false
namespace Go.Proofs.Ytjilfmphdncapaa
theorem flatOp : Flat Try.prog 39 OpD.out (fun _ => True) :=
  Flat.iso (Flat.struct Try.underlying39 (FlatFs.cons (Flat.int Try.underlying3) rfl (FlatFs.cons (Flat.int Try.underlying3) rfl (FlatFs.cons (Flat.int Try.underlying3) rfl (FlatFs.last flatTok (by kernel_rfl) (by kernel_rfl))))))
    (fun y => (⟨y.1, y.2.1, y.2.2.1, y.2.2.2.1, y.2.2.2.2⟩ : OpD)) (fun _ _ => ⟨rfl, trivial⟩)
end Go.Proofs.Ytjilfmphdncapaa
