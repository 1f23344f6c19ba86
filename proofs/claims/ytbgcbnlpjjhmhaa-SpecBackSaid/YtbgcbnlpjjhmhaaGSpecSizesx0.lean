-- Written by gprint.py, a program of this session: its own text.
import Derived.Test.YtbgcbnlpjjhmhaaProg
import Derived.Below
import Derived.Deep.Draws
import Derived.Deep.AppendLies
import Derived.Maps.AppendAt
import Derived.OwnWalk
import Derived.Laws.BytesArg
import Derived.Laws.MakeOwn
import Derived.Laws.OwnMore
import Derived.Deep.OwnRows
import Derived.Tactics
import Derived.Lib.ConvBytes
import Derived.Laws.Slices
import Derived.WalkKit
import Derived.KernelRfl
import Derived.RowKit3
import Derived.Deep.LoopGhost
import Derived.Deep.QuietTactic
import Derived.BigQuiet
import Derived.WideLaws
import Derived.Deep.DeepCutAuto
import Derived.Deep.CutBlock
import Derived.Deep.RegionHeld3
import Derived.Laws.Rows
import Derived.Lib.AppendStr
import Derived.ArgAppend
import Derived.Laws.IdiomCopy
import Derived.OrdersHeld
import Derived.Laws.BitsLemmas
import Derived.RowKit
import Derived.Test.YtbgcbnlpjjhmhaaWWords
import Derived.Test.YtbgcbnlpjjhmhaaWLast
import Derived.Test.YtbgcbnlpjjhmhaaWTab
import Derived.Test.YtbgcbnlpjjhmhaaWFour
import Derived.Test.YtbgcbnlpjjhmhaaWQPut
import Derived.Test.YtbgcbnlpjjhmhaaWApart
import Derived.Test.YtbgcbnlpjjhmhaaWArr
import Derived.Test.YtbgcbnlpjjhmhaaWZeros
import Derived.Test.YtbgcbnlpjjhmhaaWFoot
import Derived.Test.YtbgcbnlpjjhmhaaWKept
import Derived.Test.YtbgcbnlpjjhmhaaWShare
import Derived.Test.YtbgcbnlpjjhmhaaWN
import Derived.Test.YtbgcbnlpjjhmhaaWFootNe
import Derived.Test.YtbgcbnlpjjhmhaaWAt
import Derived.Test.YtbgcbnlpjjhmhaaWEqStruct
import Derived.Test.YtbgcbnlpjjhmhaaWRepsOne
import Derived.Test.YtbgcbnlpjjhmhaaWInv
import Derived.Test.YtbgcbnlpjjhmhaaWInvWords
import Derived.Test.YtbgcbnlpjjhmhaaWGuard
import Derived.Test.YtbgcbnlpjjhmhaaWNEv
import Derived.Test.YtbgcbnlpjjhmhaaWMore
namespace Go.Proofs.Ytbgcbnlpjjhmhaa.GSpecSizes
open Go.RowKit Go.Proofs.YtbgcbnlpjjhmhaaW.PrintWords Go.Proofs.YtbgcbnlpjjhmhaaW.PrintLast Go.Proofs.YtbgcbnlpjjhmhaaW.PrintMore
attribute [local go_sem] max2_int min2_int max_two min_two max_three min_three max_four min_four   -- for this text's walks alone
set_option linter.unusedVariables false
set_option linter.unusedSimpArgs false



def errW : Option Int → Value
  | none => .nilIface
  | some c => .iface 0 (.int .i64 c)
theorem errW_none : errW none = .nilIface := rfl
theorem errW_some (c : Int) : errW (some c) = .iface 0 (.int .i64 c) := rfl

theorem info5 : (Try.prog.info? 5).map (fun i => (i.zero, i.size, i.bytes)) = some (some (.int .u8 0), 1, 1) := by kernel_rfl
-- the values' own types

end Go.Proofs.Ytbgcbnlpjjhmhaa.GSpecSizes
