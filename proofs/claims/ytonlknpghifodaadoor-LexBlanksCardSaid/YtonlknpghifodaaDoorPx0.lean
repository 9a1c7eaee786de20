-- written by a program of this session (patchprint.py over the kit's print)
import Derived.Test.YtonlknpghifodaaDoorProg
import Derived.Below
import Derived.Deep.Draws
import Derived.Deep.AppendLies
import Derived.Maps.AppendAt
import Derived.OwnWalk
import Derived.Laws.BytesArg
import Derived.Laws.MakeOwn
import Derived.Laws.OwnMore
import Derived.Deep.OwnRows
import Derived.Tactics
import Derived.Lib.ConvBytes
import Derived.Laws.Slices
import Derived.WalkKit
import Derived.KernelRfl
import Derived.RowKit3
import Derived.Deep.LoopGhost
import Derived.Deep.QuietTactic
import Derived.BigQuiet
import Derived.WideLaws
import Derived.Deep.DeepCutAuto
import Derived.Deep.CutBlock
import Derived.Deep.RegionHeld3
import Derived.Laws.Rows
import Derived.Lib.AppendStr
import Derived.ArgAppend
import Derived.Laws.IdiomCopy
import Derived.OrdersHeld
import Derived.Laws.BitsLemmas
import Derived.RowKit
import Derived.Test.YtonlknpghifodaaDoorWWords
import Derived.Test.YtonlknpghifodaaDoorWLast
import Derived.Test.YtonlknpghifodaaDoorWTab
import Derived.Test.YtonlknpghifodaaDoorWFour
import Derived.Test.YtonlknpghifodaaDoorWQPut
import Derived.Test.YtonlknpghifodaaDoorWApart
import Derived.Test.YtonlknpghifodaaDoorWArr
import Derived.Test.YtonlknpghifodaaDoorWZeros
import Derived.Test.YtonlknpghifodaaDoorWFoot
import Derived.Test.YtonlknpghifodaaDoorWKept
import Derived.Test.YtonlknpghifodaaDoorWShare
import Derived.Test.YtonlknpghifodaaDoorWN
import Derived.Test.YtonlknpghifodaaDoorWFootNe
import Derived.Test.YtonlknpghifodaaDoorWAt
import Derived.Test.YtonlknpghifodaaDoorWEqStruct
import Derived.Test.YtonlknpghifodaaDoorWRepsOne
import Derived.Test.YtonlknpghifodaaDoorWInv
import Derived.Test.YtonlknpghifodaaDoorWInvWords
import Derived.Test.YtonlknpghifodaaDoorWGuard
import Derived.Test.YtonlknpghifodaaDoorWNEv
import Derived.Test.YtonlknpghifodaaDoorWMore
namespace Go.Proofs.YtonlknpghifodaaDoor.P
open Go.RowKit Go.Proofs.YtonlknpghifodaaDoorW.PrintWords Go.Proofs.YtonlknpghifodaaDoorW.PrintLast Go.Proofs.YtonlknpghifodaaDoorW.PrintMore
attribute [local go_sem] max2_int min2_int max_two min_two max_three min_three max_four min_four   -- for this text's walks alone
set_option linter.unusedVariables false
set_option linter.unusedSimpArgs false



def errW : Option Int → Value
  | none => .nilIface
  | some c => .iface 0 (.int .i64 c)
theorem errW_none : errW none = .nilIface := rfl
theorem errW_some (c : Int) : errW (some c) = .iface 0 (.int .i64 c) := rfl

theorem info5 : (Tryd.prog.info? 5).map (fun i => (i.zero, i.size, i.bytes)) = some (some (.int .u8 0), 1, 1) := by kernel_rfl
-- the values' own types

end Go.Proofs.YtonlknpghifodaaDoor.P
