-- Written by gprint.py, a program of this session: its own text.
import Derived.Test.YtpjgklpppiongaaProg
import Derived.Below
import Derived.Deep.Draws
import Derived.Deep.AppendLies
import Derived.Maps.AppendAt
import Derived.OwnWalk
import Derived.Laws.BytesArg
import Derived.Laws.MakeOwn
import Derived.Laws.OwnMore
import Derived.Deep.OwnRows
import Derived.Tactics
import Derived.Lib.ConvBytes
import Derived.Laws.Slices
import Derived.WalkKit
import Derived.KernelRfl
import Derived.RowKit3
import Derived.Deep.LoopGhost
import Derived.Deep.QuietTactic
import Derived.BigQuiet
import Derived.WideLaws
import Derived.Deep.DeepCutAuto
import Derived.Deep.CutBlock
import Derived.Deep.RegionHeld3
import Derived.Laws.Rows
import Derived.Lib.AppendStr
import Derived.ArgAppend
import Derived.Laws.IdiomCopy
import Derived.OrdersHeld
import Derived.Laws.BitsLemmas
import Derived.RowKit
import Derived.Test.YtpjgklpppiongaaWWords
import Derived.Test.YtpjgklpppiongaaWLast
import Derived.Test.YtpjgklpppiongaaWTab
import Derived.Test.YtpjgklpppiongaaWFour
import Derived.Test.YtpjgklpppiongaaWQPut
import Derived.Test.YtpjgklpppiongaaWApart
import Derived.Test.YtpjgklpppiongaaWArr
import Derived.Test.YtpjgklpppiongaaWZeros
import Derived.Test.YtpjgklpppiongaaWFoot
import Derived.Test.YtpjgklpppiongaaWKept
import Derived.Test.YtpjgklpppiongaaWShare
import Derived.Test.YtpjgklpppiongaaWN
import Derived.Test.YtpjgklpppiongaaWFootNe
import Derived.Test.YtpjgklpppiongaaWAt
import Derived.Test.YtpjgklpppiongaaWEqStruct
import Derived.Test.YtpjgklpppiongaaWRepsOne
import Derived.Test.YtpjgklpppiongaaWInv
import Derived.Test.YtpjgklpppiongaaWInvWords
import Derived.Test.YtpjgklpppiongaaWGuard
import Derived.Test.YtpjgklpppiongaaWNEv
import Derived.Test.YtpjgklpppiongaaWMore
namespace Go.Proofs.Ytpjgklpppiongaa.GShiftBack
open Go.RowKit Go.Proofs.YtpjgklpppiongaaW.PrintWords Go.Proofs.YtpjgklpppiongaaW.PrintLast Go.Proofs.YtpjgklpppiongaaW.PrintMore
attribute [local go_sem] max2_int min2_int max_two min_two max_three min_three max_four min_four   -- for this text's walks alone
set_option linter.unusedVariables false
set_option linter.unusedSimpArgs false



def errW : Option Int → Value
  | none => .nilIface
  | some c => .iface 0 (.int .i64 c)
theorem errW_none : errW none = .nilIface := rfl
theorem errW_some (c : Int) : errW (some c) = .iface 0 (.int .i64 c) := rfl

-- the values' own types

end Go.Proofs.Ytpjgklpppiongaa.GShiftBack
