/- The flat types of the session laws' arguments. -/
import Derived.Test.YtjilfmphdncapaaProg
import Derived.Test.YtjilfmphdncapaaOpen
set_option linter.unusedVariables false
set_option linter.unusedSimpArgs false
namespace Go.Proofs.Ytjilfmphdncapaa
theorem flatTok : Flat Try.prog 23 (fun y : Int × Int => [.int .i64 y.1, .int .i64 y.2]) (fun y => (Lit.int .i64 y.1).wf = true ∧ (Lit.int .i64 y.2).wf = true) :=
  Flat.struct Try.underlying23 (FlatFs.cons (Flat.int Try.underlying3) rfl (FlatFs.last (Flat.int Try.underlying3) (by kernel_rfl) (by kernel_rfl)))
end Go.Proofs.Ytjilfmphdncapaa
