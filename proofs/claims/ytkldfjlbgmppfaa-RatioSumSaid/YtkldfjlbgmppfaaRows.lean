/-
  No cell of these rows narrows 'for every input' (looked for: loops, veiled, ifaces, maps, wideKeys, modest, calm, conditions, laid).
  DERIVED. THE GIVEN ROWS OF THIS SEAT. 10 by the template 'for every input the law returns true; each argument reads behind the call as it read before'; 0 by the template 'total and deterministic' (their statements: YtkldfjlbgmppfaaTotals.lean).
  GIVEN WITH THE SEED: the statements are not yours to turn. If you find one false, say at which input.
  Laid BY PROGRAM, IN A SANDBOX (cutbox-rows.mjs): the forced cells as the released guide's own fill.sh prints them over the translation ac0f9f4bfa5f8389… (all of the seat's roots in one cut). By AI agents, Wed Nov 11 2026. No macro, syntax, notation, axiom, sorry.
-/
import Derived.Test.YtkldfjlbgmppfaaChecked
import GoSem.Claim
import GoSem.ClaimJoined
import GoSem.ClaimMapViews
import Derived.JoinedTies
import Derived.KernelRfl
namespace Go.Proofs.Ytkldfjlbgmppfaa
/- THE CELL 'sum', in the pinned program and in every row, IS THE sha256 OF THE DUMP (.gsa) THAT YtkldfjlbgmppfaaProg.lean LOADS. Nothing in Lean hashes anything: it is a label: what it is worth is what the hold of that sum in a sandbox is worth. -/
noncomputable def Try.pinned : Pinned := { name := "ytkldfjlbgmppfaa", sum := "ac0f9f4bfa5f8389e34e9d951baa26deb167983cf1a322b0a8f309b322961a30", checked := Try.checked }
namespace Rows
def none {H : Type} : Left H := { results := [], args := [] }

/-- 'millwrightlaw04.CheckTells': WHATEVER THE INPUT: true; the input reads as it did. -/
def checkTellsSpec : ChangeSpec := { name := "checkTells", fn := fun _ => fun
  | [d1, d2] => { results := [.lit (.bool true)], args := [d1, d2] }
  | _ => none }
def checkTellsRow : OpenClaim := { program := "ytkldfjlbgmppfaa", sum := "ac0f9f4bfa5f8389e34e9d951baa26deb167983cf1a322b0a8f309b322961a30", func := "millwright/millwrightlaw04.CheckTells", spec := "checkTells", apart := false }
def CheckTellsSaid : Prop := checkTellsRow.holds Try.pinned (OpenSpec.ofChange checkTellsSpec)

/-- ITS FALSE NEIGHBOUR: 'it returns false'. Refute it at one input. -/
def checkTellsWrong : ChangeSpec := { name := "checkTells", fn := fun _ => fun
  | [d1, d2] => { results := [.lit (.bool false)], args := [d1, d2] }
  | _ => none }
def CheckTellsWrongFalsely : Prop := checkTellsRow.holds Try.pinned (OpenSpec.ofChange checkTellsWrong)

/-- 'millwrightlaw04.CheckNumbers': WHATEVER THE INPUT: true; the input reads as it did. -/
def checkNumbersSpec : ChangeSpec := { name := "checkNumbers", fn := fun _ => fun
  | [d1, d2] => { results := [.lit (.bool true)], args := [d1, d2] }
  | _ => none }
def checkNumbersRow : OpenClaim := { program := "ytkldfjlbgmppfaa", sum := "ac0f9f4bfa5f8389e34e9d951baa26deb167983cf1a322b0a8f309b322961a30", func := "millwright/millwrightlaw04.CheckNumbers", spec := "checkNumbers", apart := false }
def CheckNumbersSaid : Prop := checkNumbersRow.holds Try.pinned (OpenSpec.ofChange checkNumbersSpec)

/-- ITS FALSE NEIGHBOUR: 'it returns false'. Refute it at one input. -/
def checkNumbersWrong : ChangeSpec := { name := "checkNumbers", fn := fun _ => fun
  | [d1, d2] => { results := [.lit (.bool false)], args := [d1, d2] }
  | _ => none }
def CheckNumbersWrongFalsely : Prop := checkNumbersRow.holds Try.pinned (OpenSpec.ofChange checkNumbersWrong)

/-- 'millwrightlaw04.CheckFirst': WHATEVER THE INPUT: true; the input reads as it did. -/
def checkFirstSpec : ChangeSpec := { name := "checkFirst", fn := fun _ => fun
  | [d1, d2, d3, d4] => { results := [.lit (.bool true)], args := [d1, d2, d3, d4] }
  | _ => none }
def checkFirstRow : OpenClaim := { program := "ytkldfjlbgmppfaa", sum := "ac0f9f4bfa5f8389e34e9d951baa26deb167983cf1a322b0a8f309b322961a30", func := "millwright/millwrightlaw04.CheckFirst", spec := "checkFirst", apart := false }
def CheckFirstSaid : Prop := checkFirstRow.holds Try.pinned (OpenSpec.ofChange checkFirstSpec)

/-- ITS FALSE NEIGHBOUR: 'it returns false'. Refute it at one input. -/
def checkFirstWrong : ChangeSpec := { name := "checkFirst", fn := fun _ => fun
  | [d1, d2, d3, d4] => { results := [.lit (.bool false)], args := [d1, d2, d3, d4] }
  | _ => none }
def CheckFirstWrongFalsely : Prop := checkFirstRow.holds Try.pinned (OpenSpec.ofChange checkFirstWrong)

/-- 'millwrightlaw04.CheckFewer': WHATEVER THE INPUT: true; the input reads as it did. -/
def checkFewerSpec : ChangeSpec := { name := "checkFewer", fn := fun _ => fun
  | [d1, d2, d3, d4] => { results := [.lit (.bool true)], args := [d1, d2, d3, d4] }
  | _ => none }
def checkFewerRow : OpenClaim := { program := "ytkldfjlbgmppfaa", sum := "ac0f9f4bfa5f8389e34e9d951baa26deb167983cf1a322b0a8f309b322961a30", func := "millwright/millwrightlaw04.CheckFewer", spec := "checkFewer", apart := false }
def CheckFewerSaid : Prop := checkFewerRow.holds Try.pinned (OpenSpec.ofChange checkFewerSpec)

/-- ITS FALSE NEIGHBOUR: 'it returns false'. Refute it at one input. -/
def checkFewerWrong : ChangeSpec := { name := "checkFewer", fn := fun _ => fun
  | [d1, d2, d3, d4] => { results := [.lit (.bool false)], args := [d1, d2, d3, d4] }
  | _ => none }
def CheckFewerWrongFalsely : Prop := checkFewerRow.holds Try.pinned (OpenSpec.ofChange checkFewerWrong)

/-- 'millwrightlaw04.CheckBetween': WHATEVER THE INPUT: true; the input reads as it did. -/
def checkBetweenSpec : ChangeSpec := { name := "checkBetween", fn := fun _ => fun
  | [d1, d2, d3, d4, d5] => { results := [.lit (.bool true)], args := [d1, d2, d3, d4, d5] }
  | _ => none }
def checkBetweenRow : OpenClaim := { program := "ytkldfjlbgmppfaa", sum := "ac0f9f4bfa5f8389e34e9d951baa26deb167983cf1a322b0a8f309b322961a30", func := "millwright/millwrightlaw04.CheckBetween", spec := "checkBetween", apart := false }
def CheckBetweenSaid : Prop := checkBetweenRow.holds Try.pinned (OpenSpec.ofChange checkBetweenSpec)

/-- ITS FALSE NEIGHBOUR: 'it returns false'. Refute it at one input. -/
def checkBetweenWrong : ChangeSpec := { name := "checkBetween", fn := fun _ => fun
  | [d1, d2, d3, d4, d5] => { results := [.lit (.bool false)], args := [d1, d2, d3, d4, d5] }
  | _ => none }
def CheckBetweenWrongFalsely : Prop := checkBetweenRow.holds Try.pinned (OpenSpec.ofChange checkBetweenWrong)

/-- 'millwrightlaw13.RatioTells': WHATEVER THE INPUT: true; the input reads as it did. -/
def ratioTellsSpec : ChangeSpec := { name := "ratioTells", fn := fun _ => fun
  | [d1, d2] => { results := [.lit (.bool true)], args := [d1, d2] }
  | _ => none }
def ratioTellsRow : OpenClaim := { program := "ytkldfjlbgmppfaa", sum := "ac0f9f4bfa5f8389e34e9d951baa26deb167983cf1a322b0a8f309b322961a30", func := "millwright/millwrightlaw13.RatioTells", spec := "ratioTells", apart := false }
def RatioTellsSaid : Prop := ratioTellsRow.holds Try.pinned (OpenSpec.ofChange ratioTellsSpec)

/-- ITS FALSE NEIGHBOUR: 'it returns false'. Refute it at one input. -/
def ratioTellsWrong : ChangeSpec := { name := "ratioTells", fn := fun _ => fun
  | [d1, d2] => { results := [.lit (.bool false)], args := [d1, d2] }
  | _ => none }
def RatioTellsWrongFalsely : Prop := ratioTellsRow.holds Try.pinned (OpenSpec.ofChange ratioTellsWrong)

/-- 'millwrightlaw13.RatioOrder': WHATEVER THE INPUT: true; the input reads as it did. -/
def ratioOrderSpec : ChangeSpec := { name := "ratioOrder", fn := fun _ => fun
  | [d1, d2, d3] => { results := [.lit (.bool true)], args := [d1, d2, d3] }
  | _ => none }
def ratioOrderRow : OpenClaim := { program := "ytkldfjlbgmppfaa", sum := "ac0f9f4bfa5f8389e34e9d951baa26deb167983cf1a322b0a8f309b322961a30", func := "millwright/millwrightlaw13.RatioOrder", spec := "ratioOrder", apart := false }
def RatioOrderSaid : Prop := ratioOrderRow.holds Try.pinned (OpenSpec.ofChange ratioOrderSpec)

/-- ITS FALSE NEIGHBOUR: 'it returns false'. Refute it at one input. -/
def ratioOrderWrong : ChangeSpec := { name := "ratioOrder", fn := fun _ => fun
  | [d1, d2, d3] => { results := [.lit (.bool false)], args := [d1, d2, d3] }
  | _ => none }
def RatioOrderWrongFalsely : Prop := ratioOrderRow.holds Try.pinned (OpenSpec.ofChange ratioOrderWrong)

/-- 'millwrightlaw13.RatioSum': WHATEVER THE INPUT: true; the input reads as it did. -/
def ratioSumSpec : ChangeSpec := { name := "ratioSum", fn := fun _ => fun
  | [d1, d2] => { results := [.lit (.bool true)], args := [d1, d2] }
  | _ => none }
def ratioSumRow : OpenClaim := { program := "ytkldfjlbgmppfaa", sum := "ac0f9f4bfa5f8389e34e9d951baa26deb167983cf1a322b0a8f309b322961a30", func := "millwright/millwrightlaw13.RatioSum", spec := "ratioSum", apart := false }
def RatioSumSaid : Prop := ratioSumRow.holds Try.pinned (OpenSpec.ofChange ratioSumSpec)

/-- ITS FALSE NEIGHBOUR: 'it returns false'. Refute it at one input. -/
def ratioSumWrong : ChangeSpec := { name := "ratioSum", fn := fun _ => fun
  | [d1, d2] => { results := [.lit (.bool false)], args := [d1, d2] }
  | _ => none }
def RatioSumWrongFalsely : Prop := ratioSumRow.holds Try.pinned (OpenSpec.ofChange ratioSumWrong)

/-- 'millwrightlaw13.RatioScales': WHATEVER THE INPUT: true; the input reads as it did. -/
def ratioScalesSpec : ChangeSpec := { name := "ratioScales", fn := fun _ => fun
  | [d1, d2, d3] => { results := [.lit (.bool true)], args := [d1, d2, d3] }
  | _ => none }
def ratioScalesRow : OpenClaim := { program := "ytkldfjlbgmppfaa", sum := "ac0f9f4bfa5f8389e34e9d951baa26deb167983cf1a322b0a8f309b322961a30", func := "millwright/millwrightlaw13.RatioScales", spec := "ratioScales", apart := false }
def RatioScalesSaid : Prop := ratioScalesRow.holds Try.pinned (OpenSpec.ofChange ratioScalesSpec)

/-- ITS FALSE NEIGHBOUR: 'it returns false'. Refute it at one input. -/
def ratioScalesWrong : ChangeSpec := { name := "ratioScales", fn := fun _ => fun
  | [d1, d2, d3] => { results := [.lit (.bool false)], args := [d1, d2, d3] }
  | _ => none }
def RatioScalesWrongFalsely : Prop := ratioScalesRow.holds Try.pinned (OpenSpec.ofChange ratioScalesWrong)

/-- 'millwrightlaw09.LifeFails': WHATEVER THE INPUT: true; the input reads as it did. -/
def lifeFailsSpec : ChangeSpec := { name := "lifeFails", fn := fun _ => fun
  | [d1, d2] => { results := [.lit (.bool true)], args := [d1, d2] }
  | _ => none }
def lifeFailsRow : OpenClaim := { program := "ytkldfjlbgmppfaa", sum := "ac0f9f4bfa5f8389e34e9d951baa26deb167983cf1a322b0a8f309b322961a30", func := "millwright/millwrightlaw09.LifeFails", spec := "lifeFails", apart := false }
def LifeFailsSaid : Prop := lifeFailsRow.holds Try.pinned (OpenSpec.ofChange lifeFailsSpec)

/-- ITS FALSE NEIGHBOUR: 'it returns false'. Refute it at one input. -/
def lifeFailsWrong : ChangeSpec := { name := "lifeFails", fn := fun _ => fun
  | [d1, d2] => { results := [.lit (.bool false)], args := [d1, d2] }
  | _ => none }
def LifeFailsWrongFalsely : Prop := lifeFailsRow.holds Try.pinned (OpenSpec.ofChange lifeFailsWrong)

/- THE SECOND FORM. 'bulk': how many values and letters a reading holds, each counted each time it is reached (what is shared counts as often as it is met; a slice's spare places count too). A statement '..UptoSaid' is the law's where the arguments, and the package variables that the reading takes, are together of bulk at most 1048576: NARROWER than '..Said'. Prove '..Said' where nothing that the law and all that it calls make is longer than what came in: it says more and counts as full. Else prove '..UptoSaid'. A law counts once. -/
mutual
def uptoBulk {H : Type} : DataW H → Nat
  | .lit (.string bytes) => bytes.length + 1
  | .lit _ => 1
  | .nil => 1
  | .ptr d => uptoBulk d + 1
  | .slice elems spare => uptoBulkAll elems + uptoBulkAll spare + 1
  | .agg parts => uptoBulkAll parts + 1
  | .iface _ d => uptoBulk d + 1
  | .map entries => uptoBulkEntries entries + 1
  | .held _ => 1
def uptoBulkAll {H : Type} : List (DataW H) → Nat
  | [] => 0
  | d :: r => uptoBulk d + uptoBulkAll r
def uptoBulkEntries {H : Type} : List (Lit × DataW H) → Nat
  | [] => 0
  | x :: r => uptoBulkEntry x + uptoBulkEntries r
def uptoBulkEntry {H : Type} : Lit × DataW H → Nat
  | (.string bytes, d) => bytes.length + uptoBulk d + 1
  | (_, d) => uptoBulk d + 1
 end
def uptoSmall : (H : Type) → List (DataW H) → Bool := fun _ ds => decide (uptoBulkAll ds ≤ 1048576)
def OpenSpec.upto (s : _root_.Go.ChangeSpec) : _root_.Go.OpenSpec := { _root_.Go.OpenSpec.ofChange s with cond := some uptoSmall }

/-- 'millwrightlaw04.CheckTells', WHERE WHAT IT READS IS OF BULK AT MOST 1048576: true; the input reads as it did. -/
def checkTellsUptoRow : OpenClaim := { program := "ytkldfjlbgmppfaa", sum := "ac0f9f4bfa5f8389e34e9d951baa26deb167983cf1a322b0a8f309b322961a30", func := "millwright/millwrightlaw04.CheckTells", spec := "checkTells", apart := false, narrowed := true }
def CheckTellsUptoSaid : Prop := checkTellsUptoRow.holds Try.pinned (OpenSpec.upto checkTellsSpec)

/-- 'millwrightlaw04.CheckNumbers', WHERE WHAT IT READS IS OF BULK AT MOST 1048576: true; the input reads as it did. -/
def checkNumbersUptoRow : OpenClaim := { program := "ytkldfjlbgmppfaa", sum := "ac0f9f4bfa5f8389e34e9d951baa26deb167983cf1a322b0a8f309b322961a30", func := "millwright/millwrightlaw04.CheckNumbers", spec := "checkNumbers", apart := false, narrowed := true }
def CheckNumbersUptoSaid : Prop := checkNumbersUptoRow.holds Try.pinned (OpenSpec.upto checkNumbersSpec)

/-- 'millwrightlaw04.CheckFirst', WHERE WHAT IT READS IS OF BULK AT MOST 1048576: true; the input reads as it did. -/
def checkFirstUptoRow : OpenClaim := { program := "ytkldfjlbgmppfaa", sum := "ac0f9f4bfa5f8389e34e9d951baa26deb167983cf1a322b0a8f309b322961a30", func := "millwright/millwrightlaw04.CheckFirst", spec := "checkFirst", apart := false, narrowed := true }
def CheckFirstUptoSaid : Prop := checkFirstUptoRow.holds Try.pinned (OpenSpec.upto checkFirstSpec)

/-- 'millwrightlaw04.CheckFewer', WHERE WHAT IT READS IS OF BULK AT MOST 1048576: true; the input reads as it did. -/
def checkFewerUptoRow : OpenClaim := { program := "ytkldfjlbgmppfaa", sum := "ac0f9f4bfa5f8389e34e9d951baa26deb167983cf1a322b0a8f309b322961a30", func := "millwright/millwrightlaw04.CheckFewer", spec := "checkFewer", apart := false, narrowed := true }
def CheckFewerUptoSaid : Prop := checkFewerUptoRow.holds Try.pinned (OpenSpec.upto checkFewerSpec)

/-- 'millwrightlaw04.CheckBetween', WHERE WHAT IT READS IS OF BULK AT MOST 1048576: true; the input reads as it did. -/
def checkBetweenUptoRow : OpenClaim := { program := "ytkldfjlbgmppfaa", sum := "ac0f9f4bfa5f8389e34e9d951baa26deb167983cf1a322b0a8f309b322961a30", func := "millwright/millwrightlaw04.CheckBetween", spec := "checkBetween", apart := false, narrowed := true }
def CheckBetweenUptoSaid : Prop := checkBetweenUptoRow.holds Try.pinned (OpenSpec.upto checkBetweenSpec)

/-- 'millwrightlaw13.RatioTells', WHERE WHAT IT READS IS OF BULK AT MOST 1048576: true; the input reads as it did. -/
def ratioTellsUptoRow : OpenClaim := { program := "ytkldfjlbgmppfaa", sum := "ac0f9f4bfa5f8389e34e9d951baa26deb167983cf1a322b0a8f309b322961a30", func := "millwright/millwrightlaw13.RatioTells", spec := "ratioTells", apart := false, narrowed := true }
def RatioTellsUptoSaid : Prop := ratioTellsUptoRow.holds Try.pinned (OpenSpec.upto ratioTellsSpec)

/-- 'millwrightlaw13.RatioOrder', WHERE WHAT IT READS IS OF BULK AT MOST 1048576: true; the input reads as it did. -/
def ratioOrderUptoRow : OpenClaim := { program := "ytkldfjlbgmppfaa", sum := "ac0f9f4bfa5f8389e34e9d951baa26deb167983cf1a322b0a8f309b322961a30", func := "millwright/millwrightlaw13.RatioOrder", spec := "ratioOrder", apart := false, narrowed := true }
def RatioOrderUptoSaid : Prop := ratioOrderUptoRow.holds Try.pinned (OpenSpec.upto ratioOrderSpec)

/-- 'millwrightlaw13.RatioSum', WHERE WHAT IT READS IS OF BULK AT MOST 1048576: true; the input reads as it did. -/
def ratioSumUptoRow : OpenClaim := { program := "ytkldfjlbgmppfaa", sum := "ac0f9f4bfa5f8389e34e9d951baa26deb167983cf1a322b0a8f309b322961a30", func := "millwright/millwrightlaw13.RatioSum", spec := "ratioSum", apart := false, narrowed := true }
def RatioSumUptoSaid : Prop := ratioSumUptoRow.holds Try.pinned (OpenSpec.upto ratioSumSpec)

/-- 'millwrightlaw13.RatioScales', WHERE WHAT IT READS IS OF BULK AT MOST 1048576: true; the input reads as it did. -/
def ratioScalesUptoRow : OpenClaim := { program := "ytkldfjlbgmppfaa", sum := "ac0f9f4bfa5f8389e34e9d951baa26deb167983cf1a322b0a8f309b322961a30", func := "millwright/millwrightlaw13.RatioScales", spec := "ratioScales", apart := false, narrowed := true }
def RatioScalesUptoSaid : Prop := ratioScalesUptoRow.holds Try.pinned (OpenSpec.upto ratioScalesSpec)

/-- 'millwrightlaw09.LifeFails', WHERE WHAT IT READS IS OF BULK AT MOST 1048576: true; the input reads as it did. -/
def lifeFailsUptoRow : OpenClaim := { program := "ytkldfjlbgmppfaa", sum := "ac0f9f4bfa5f8389e34e9d951baa26deb167983cf1a322b0a8f309b322961a30", func := "millwright/millwrightlaw09.LifeFails", spec := "lifeFails", apart := false, narrowed := true }
def LifeFailsUptoSaid : Prop := lifeFailsUptoRow.holds Try.pinned (OpenSpec.upto lifeFailsSpec)

end Rows
end Go.Proofs.Ytkldfjlbgmppfaa
