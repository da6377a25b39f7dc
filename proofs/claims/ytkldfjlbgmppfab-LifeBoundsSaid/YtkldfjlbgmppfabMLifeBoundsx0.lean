-- Written by a program of this session out of Lean's own print of the program. Not trusted: Lean checks it.
import Derived.Test.YtkldfjlbgmppfabProg
import Derived.Below
import Derived.Deep.Draws
import Derived.Deep.AppendLies
import Derived.Maps.AppendAt
import Derived.OwnWalk
import Derived.Laws.BytesArg
import Derived.Laws.MakeOwn
import Derived.Laws.OwnMore
import Derived.Deep.OwnRows
import Derived.Tactics
import Derived.Lib.ConvBytes
import Derived.Laws.Slices
import Derived.WalkKit
import Derived.KernelRfl
import Derived.RowKit3
import Derived.Deep.LoopGhost
import Derived.Deep.QuietTactic
import Derived.BigQuiet
import Derived.WideLaws
import Derived.Deep.DeepCutAuto
import Derived.Deep.CutBlock
import Derived.Deep.RegionHeld3
import Derived.Laws.Rows
import Derived.Lib.AppendStr
import Derived.ArgAppend
import Derived.Laws.IdiomCopy
import Derived.OrdersHeld
import Derived.Laws.BitsLemmas
import Derived.RowKit
import Derived.Test.YtkldfjlbgmppfabWide
import Derived.ChangeKeysEq
import Derived.Test.YtkldfjlbgmppfabWWords
import Derived.Test.YtkldfjlbgmppfabWLast
import Derived.Test.YtkldfjlbgmppfabWTab
import Derived.Test.YtkldfjlbgmppfabWFour
import Derived.Test.YtkldfjlbgmppfabWQPut
import Derived.Test.YtkldfjlbgmppfabWApart
import Derived.Test.YtkldfjlbgmppfabWArr
import Derived.Test.YtkldfjlbgmppfabWZeros
import Derived.Test.YtkldfjlbgmppfabWFoot
import Derived.Test.YtkldfjlbgmppfabWKept
import Derived.Test.YtkldfjlbgmppfabWShare
import Derived.Test.YtkldfjlbgmppfabWN
import Derived.Test.YtkldfjlbgmppfabWFootNe
import Derived.Test.YtkldfjlbgmppfabWAt
import Derived.Test.YtkldfjlbgmppfabWEqStruct
import Derived.Test.YtkldfjlbgmppfabWRepsOne
import Derived.Test.YtkldfjlbgmppfabWInv
import Derived.Test.YtkldfjlbgmppfabWInvWords
import Derived.Test.YtkldfjlbgmppfabWGuard
import Derived.Test.YtkldfjlbgmppfabWNEv
import Derived.Test.YtkldfjlbgmppfabWMore
namespace Go.Proofs.Ytkldfjlbgmppfab.MLifeBounds
open Go.RowKit Go.Proofs.YtkldfjlbgmppfabW.PrintWords Go.Proofs.YtkldfjlbgmppfabW.PrintLast Go.Proofs.YtkldfjlbgmppfabW.PrintMore
attribute [local go_sem] max2_int min2_int max_two min_two max_three min_three max_four min_four Wide.cell_twice  -- for this text's walks alone
set_option linter.unusedVariables false
set_option linter.unusedSimpArgs false



def errW : Option Int → Value
  | none => .nilIface
  | some c => .iface 0 (.int .i64 c)
theorem errW_none : errW none = .nilIface := rfl
theorem errW_some (c : Int) : errW (some c) = .iface 0 (.int .i64 c) := rfl

theorem info3 : (Try.prog.info? 3).map (fun i => (i.zero, i.size, i.bytes)) = some (some (.int .i64 0), 1, 8) := by kernel_rfl
-- the values' own types

end Go.Proofs.Ytkldfjlbgmppfab.MLifeBounds
