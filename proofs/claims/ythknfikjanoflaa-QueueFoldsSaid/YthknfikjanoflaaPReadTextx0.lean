-- PRINTED BY print.sh 35421559b90ae4d0a3588c463048766b98c2df88dd9212a6774a882060cdf62d: not written by this session
import Derived.Test.YthknfikjanoflaaProg
import Derived.Below
import Derived.Deep.Draws
import Derived.Deep.AppendLies
import Derived.Maps.AppendAt
import Derived.OwnWalk
import Derived.Laws.BytesArg
import Derived.Laws.MakeOwn
import Derived.Laws.OwnMore
import Derived.Deep.OwnRows
import Derived.Tactics
import Derived.Lib.ConvBytes
import Derived.Laws.Slices
import Derived.WalkKit
import Derived.KernelRfl
import Derived.RowKit3
import Derived.Deep.LoopGhost
import Derived.Deep.QuietTactic
import Derived.BigQuiet
import Derived.WideLaws
import Derived.Deep.DeepCutAuto
import Derived.Deep.CutBlock
import Derived.Deep.RegionHeld3
import Derived.Laws.Rows
import Derived.Lib.AppendStr
import Derived.ArgAppend
import Derived.Laws.IdiomCopy
import Derived.OrdersHeld
import Derived.Laws.BitsLemmas
import Derived.RowKit
import Derived.Test.YthknfikjanoflaaWWords
import Derived.Test.YthknfikjanoflaaWLast
import Derived.Test.YthknfikjanoflaaWTab
import Derived.Test.YthknfikjanoflaaWFour
import Derived.Test.YthknfikjanoflaaWQPut
import Derived.Test.YthknfikjanoflaaWApart
import Derived.Test.YthknfikjanoflaaWArr
import Derived.Test.YthknfikjanoflaaWZeros
import Derived.Test.YthknfikjanoflaaWFoot
import Derived.Test.YthknfikjanoflaaWKept
import Derived.Test.YthknfikjanoflaaWShare
import Derived.Test.YthknfikjanoflaaWN
import Derived.Test.YthknfikjanoflaaWFootNe
import Derived.Test.YthknfikjanoflaaWAt
import Derived.Test.YthknfikjanoflaaWEqStruct
import Derived.Test.YthknfikjanoflaaWRepsOne
import Derived.Test.YthknfikjanoflaaWInv
import Derived.Test.YthknfikjanoflaaWInvWords
import Derived.Test.YthknfikjanoflaaWGuard
import Derived.Test.YthknfikjanoflaaWNEv
import Derived.Test.YthknfikjanoflaaWMore
namespace Go.Proofs.Ythknfikjanoflaa.PReadText
open Go.RowKit Go.Proofs.YthknfikjanoflaaW.PrintWords Go.Proofs.YthknfikjanoflaaW.PrintLast Go.Proofs.YthknfikjanoflaaW.PrintMore
attribute [local go_sem] max2_int min2_int max_two min_two max_three min_three max_four min_four   -- for this text's walks alone
set_option linter.unusedVariables false
set_option linter.unusedSimpArgs false



def errW : Option Int → Value
  | none => .nilIface
  | some c => .iface 0 (.int .i64 c)
theorem errW_none : errW none = .nilIface := rfl
theorem errW_some (c : Int) : errW (some c) = .iface 0 (.int .i64 c) := rfl

theorem info5 : (Try.prog.info? 5).map (fun i => (i.zero, i.size, i.bytes)) = some (some (.int .u8 0), 1, 1) := by kernel_rfl
-- the values' own types

end Go.Proofs.Ythknfikjanoflaa.PReadText
