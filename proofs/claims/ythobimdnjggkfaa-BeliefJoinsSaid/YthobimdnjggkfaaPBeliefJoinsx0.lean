-- PRINTED BY print.sh 35421559b90ae4d0a3588c463048766b98c2df88dd9212a6774a882060cdf62d: not written by this session
import Derived.Test.YthobimdnjggkfaaProg
import Derived.Below
import Derived.Deep.Draws
import Derived.Deep.AppendLies
import Derived.Maps.AppendAt
import Derived.OwnWalk
import Derived.Laws.BytesArg
import Derived.Laws.MakeOwn
import Derived.Laws.OwnMore
import Derived.Deep.OwnRows
import Derived.Tactics
import Derived.Lib.ConvBytes
import Derived.Laws.Slices
import Derived.WalkKit
import Derived.KernelRfl
import Derived.RowKit3
import Derived.Deep.LoopGhost
import Derived.Deep.QuietTactic
import Derived.BigQuiet
import Derived.WideLaws
import Derived.Deep.DeepCutAuto
import Derived.Deep.CutBlock
import Derived.Deep.RegionHeld3
import Derived.Laws.Rows
import Derived.Lib.AppendStr
import Derived.ArgAppend
import Derived.Laws.IdiomCopy
import Derived.OrdersHeld
import Derived.Laws.BitsLemmas
import Derived.RowKit
import Derived.Test.YthobimdnjggkfaaWWords
import Derived.Test.YthobimdnjggkfaaWLast
import Derived.Test.YthobimdnjggkfaaWTab
import Derived.Test.YthobimdnjggkfaaWFour
import Derived.Test.YthobimdnjggkfaaWQPut
import Derived.Test.YthobimdnjggkfaaWApart
import Derived.Test.YthobimdnjggkfaaWArr
import Derived.Test.YthobimdnjggkfaaWZeros
import Derived.Test.YthobimdnjggkfaaWFoot
import Derived.Test.YthobimdnjggkfaaWKept
import Derived.Test.YthobimdnjggkfaaWShare
import Derived.Test.YthobimdnjggkfaaWN
import Derived.Test.YthobimdnjggkfaaWFootNe
import Derived.Test.YthobimdnjggkfaaWAt
import Derived.Test.YthobimdnjggkfaaWEqStruct
import Derived.Test.YthobimdnjggkfaaWRepsOne
import Derived.Test.YthobimdnjggkfaaWInv
import Derived.Test.YthobimdnjggkfaaWInvWords
import Derived.Test.YthobimdnjggkfaaWGuard
import Derived.Test.YthobimdnjggkfaaWNEv
import Derived.Test.YthobimdnjggkfaaWMore
namespace Go.Proofs.Ythobimdnjggkfaa.PBeliefJoins
open Go.RowKit Go.Proofs.YthobimdnjggkfaaW.PrintWords Go.Proofs.YthobimdnjggkfaaW.PrintLast Go.Proofs.YthobimdnjggkfaaW.PrintMore
attribute [local go_sem] max2_int min2_int max_two min_two max_three min_three max_four min_four   -- for this text's walks alone
set_option linter.unusedVariables false
set_option linter.unusedSimpArgs false



def errW : Option Int → Value
  | none => .nilIface
  | some c => .iface 0 (.int .i64 c)
theorem errW_none : errW none = .nilIface := rfl
theorem errW_some (c : Int) : errW (some c) = .iface 0 (.int .i64 c) := rfl

theorem info3 : (Try.prog.info? 3).map (fun i => (i.zero, i.size, i.bytes)) = some (some (.int .i64 0), 1, 8) := by kernel_rfl
-- the values' own types

end Go.Proofs.Ythobimdnjggkfaa.PBeliefJoins
