/- A row of texts, opened. -/
import Derived.Test.YtoknpcohhnlncaaWeigh
import Derived.Test.YtoknpcohhnlncaaFlowF
set_option linter.unusedVariables false
set_option linter.unusedSimpArgs false
namespace Go.Proofs.Ytoknpcohhnlncaa
theorem flatStr : FlatW Try.prog 9 oS (fun s => s.size ≤ 140737488351232) := FlatW.str Try.underlying9
end Go.Proofs.Ytoknpcohhnlncaa
