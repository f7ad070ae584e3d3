/- Contracts of plain functions, written by the kit's print for this claim (law ActTurns), with lemmas of this session's own laid in. -/
import Derived.Test.YthghndjfghdnnaaProg
import Derived.Below
import Derived.Deep.Draws
import Derived.Deep.AppendLies
import Derived.Maps.AppendAt
import Derived.OwnWalk
import Derived.Laws.BytesArg
import Derived.Laws.MakeOwn
import Derived.Laws.OwnMore
import Derived.Deep.OwnRows
import Derived.Tactics
import Derived.Lib.ConvBytes
import Derived.Laws.Slices
import Derived.WalkKit
import Derived.KernelRfl
import Derived.RowKit3
import Derived.Deep.LoopGhost
import Derived.Deep.QuietTactic
import Derived.BigQuiet
import Derived.WideLaws
import Derived.Deep.DeepCutAuto
import Derived.Deep.CutBlock
import Derived.Deep.RegionHeld3
import Derived.Laws.Rows
import Derived.Lib.AppendStr
import Derived.ArgAppend
import Derived.Laws.IdiomCopy
import Derived.OrdersHeld
import Derived.Laws.BitsLemmas
import Derived.RowKit
import Derived.Test.YthghndjfghdnnaaWWords
import Derived.Test.YthghndjfghdnnaaWLast
import Derived.Test.YthghndjfghdnnaaWTab
import Derived.Test.YthghndjfghdnnaaWFour
import Derived.Test.YthghndjfghdnnaaWQPut
import Derived.Test.YthghndjfghdnnaaWApart
import Derived.Test.YthghndjfghdnnaaWArr
import Derived.Test.YthghndjfghdnnaaWZeros
import Derived.Test.YthghndjfghdnnaaWFoot
import Derived.Test.YthghndjfghdnnaaWKept
import Derived.Test.YthghndjfghdnnaaWShare
import Derived.Test.YthghndjfghdnnaaWN
import Derived.Test.YthghndjfghdnnaaWFootNe
import Derived.Test.YthghndjfghdnnaaWAt
import Derived.Test.YthghndjfghdnnaaWEqStruct
import Derived.Test.YthghndjfghdnnaaWRepsOne
import Derived.Test.YthghndjfghdnnaaWInv
import Derived.Test.YthghndjfghdnnaaWInvWords
import Derived.Test.YthghndjfghdnnaaWGuard
import Derived.Test.YthghndjfghdnnaaWNEv
import Derived.Test.YthghndjfghdnnaaWMore
namespace Go.Proofs.Ythghndjfghdnnaa.PActTurns
open Go.RowKit Go.Proofs.YthghndjfghdnnaaW.PrintWords Go.Proofs.YthghndjfghdnnaaW.PrintLast Go.Proofs.YthghndjfghdnnaaW.PrintMore
attribute [local go_sem] max2_int min2_int max_two min_two max_three min_three max_four min_four   -- for this text's walks alone
set_option linter.unusedVariables false
set_option linter.unusedSimpArgs false



def errW : Option Int → Value
  | none => .nilIface
  | some c => .iface 0 (.int .i64 c)
theorem errW_none : errW none = .nilIface := rfl
theorem errW_some (c : Int) : errW (some c) = .iface 0 (.int .i64 c) := rfl

theorem info3 : (Try.prog.info? 3).map (fun i => (i.zero, i.size, i.bytes)) = some (some (.int .i64 0), 1, 8) := by kernel_rfl
-- the values' own types

end Go.Proofs.Ythghndjfghdnnaa.PActTurns
