/-
  No cell of these rows narrows 'for every input' (looked for: loops, veiled, ifaces, maps, wideKeys, modest, calm, conditions, laid).
  DERIVED. THE GIVEN ROWS OF THIS SEAT. 12 by the template 'for every input the law returns true; each argument reads behind the call as it read before'; 0 by the template 'total and deterministic' (their statements: YtkldfjlbgmppfabTotals.lean).
  GIVEN WITH THE SEED: the statements are not yours to turn. If you find one false, say at which input.
  Laid BY PROGRAM, IN A SANDBOX (cutbox-rows.mjs): the forced cells as the released guide's own fill.sh prints them over the translation 7e5a2563d76076f2… (all of the seat's roots in one cut). By AI agents, Wed Nov 11 2026. No macro, syntax, notation, axiom, sorry.
-/
import Derived.Test.YtkldfjlbgmppfabChecked
import GoSem.Claim
import GoSem.ClaimJoined
import GoSem.ClaimMapViews
import Derived.JoinedTies
import Derived.KernelRfl
namespace Go.Proofs.Ytkldfjlbgmppfab
/- THE CELL 'sum', in the pinned program and in every row, IS THE sha256 OF THE DUMP (.gsa) THAT YtkldfjlbgmppfabProg.lean LOADS. Nothing in Lean hashes anything: it is a label: what it is worth is what the hold of that sum in a sandbox is worth. -/
noncomputable def Try.pinned : Pinned := { name := "ytkldfjlbgmppfab", sum := "7e5a2563d76076f2ae9fc07bad269eba9f1c6aa7cbe112e493f6070d7294cc7e", checked := Try.checked }
namespace Rows
def none {H : Type} : Left H := { results := [], args := [] }

/-- 'millwrightlaw09.LifeStops': WHATEVER THE INPUT: true; the input reads as it did. -/
def lifeStopsSpec : ChangeSpec := { name := "lifeStops", fn := fun _ => fun
  | [d] => { results := [.lit (.bool true)], args := [d] }
  | _ => none }
def lifeStopsRow : OpenClaim := { program := "ytkldfjlbgmppfab", sum := "7e5a2563d76076f2ae9fc07bad269eba9f1c6aa7cbe112e493f6070d7294cc7e", func := "millwright/millwrightlaw09.LifeStops", spec := "lifeStops", apart := false }
def LifeStopsSaid : Prop := lifeStopsRow.holds Try.pinned (OpenSpec.ofChange lifeStopsSpec)

/-- ITS FALSE NEIGHBOUR: 'it returns false'. Refute it at one input. -/
def lifeStopsWrong : ChangeSpec := { name := "lifeStops", fn := fun _ => fun
  | [d] => { results := [.lit (.bool false)], args := [d] }
  | _ => none }
def LifeStopsWrongFalsely : Prop := lifeStopsRow.holds Try.pinned (OpenSpec.ofChange lifeStopsWrong)

/-- 'millwrightlaw10.LedgerPlays': WHATEVER THE INPUT: true; the input reads as it did. -/
def ledgerPlaysSpec : ChangeSpec := { name := "ledgerPlays", fn := fun _ => fun
  | [d1, d2, d3] => { results := [.lit (.bool true)], args := [d1, d2, d3] }
  | _ => none }
def ledgerPlaysRow : OpenClaim := { program := "ytkldfjlbgmppfab", sum := "7e5a2563d76076f2ae9fc07bad269eba9f1c6aa7cbe112e493f6070d7294cc7e", func := "millwright/millwrightlaw10.LedgerPlays", spec := "ledgerPlays", unfollowed := true, recurses := true, apart := false }
def LedgerPlaysSaid : Prop := ledgerPlaysRow.holds Try.pinned (OpenSpec.ofChange ledgerPlaysSpec)

/-- ITS FALSE NEIGHBOUR: 'it returns false'. Refute it at one input. -/
def ledgerPlaysWrong : ChangeSpec := { name := "ledgerPlays", fn := fun _ => fun
  | [d1, d2, d3] => { results := [.lit (.bool false)], args := [d1, d2, d3] }
  | _ => none }
def LedgerPlaysWrongFalsely : Prop := ledgerPlaysRow.holds Try.pinned (OpenSpec.ofChange ledgerPlaysWrong)

/-- 'millwrightlaw10.LedgerBounds': WHATEVER THE INPUT: true; the input reads as it did. -/
def ledgerBoundsSpec : ChangeSpec := { name := "ledgerBounds", fn := fun _ => fun
  | [d1, d2, d3] => { results := [.lit (.bool true)], args := [d1, d2, d3] }
  | _ => none }
def ledgerBoundsRow : OpenClaim := { program := "ytkldfjlbgmppfab", sum := "7e5a2563d76076f2ae9fc07bad269eba9f1c6aa7cbe112e493f6070d7294cc7e", func := "millwright/millwrightlaw10.LedgerBounds", spec := "ledgerBounds", unfollowed := true, recurses := true, apart := false }
def LedgerBoundsSaid : Prop := ledgerBoundsRow.holds Try.pinned (OpenSpec.ofChange ledgerBoundsSpec)

/-- ITS FALSE NEIGHBOUR: 'it returns false'. Refute it at one input. -/
def ledgerBoundsWrong : ChangeSpec := { name := "ledgerBounds", fn := fun _ => fun
  | [d1, d2, d3] => { results := [.lit (.bool false)], args := [d1, d2, d3] }
  | _ => none }
def LedgerBoundsWrongFalsely : Prop := ledgerBoundsRow.holds Try.pinned (OpenSpec.ofChange ledgerBoundsWrong)

/-- 'millwrightlaw10.LedgerBack': WHATEVER THE INPUT: true; the input reads as it did. -/
def ledgerBackSpec : ChangeSpec := { name := "ledgerBack", fn := fun _ => fun
  | [d1, d2, d3, d4, d5] => { results := [.lit (.bool true)], args := [d1, d2, d3, d4, d5] }
  | _ => none }
def ledgerBackRow : OpenClaim := { program := "ytkldfjlbgmppfab", sum := "7e5a2563d76076f2ae9fc07bad269eba9f1c6aa7cbe112e493f6070d7294cc7e", func := "millwright/millwrightlaw10.LedgerBack", spec := "ledgerBack", unfollowed := true, recurses := true, apart := false }
def LedgerBackSaid : Prop := ledgerBackRow.holds Try.pinned (OpenSpec.ofChange ledgerBackSpec)

/-- ITS FALSE NEIGHBOUR: 'it returns false'. Refute it at one input. -/
def ledgerBackWrong : ChangeSpec := { name := "ledgerBack", fn := fun _ => fun
  | [d1, d2, d3, d4, d5] => { results := [.lit (.bool false)], args := [d1, d2, d3, d4, d5] }
  | _ => none }
def LedgerBackWrongFalsely : Prop := ledgerBackRow.holds Try.pinned (OpenSpec.ofChange ledgerBackWrong)

/-- 'millwrightlaw10.LedgerLowest': WHATEVER THE INPUT: true; the input reads as it did. -/
def ledgerLowestSpec : ChangeSpec := { name := "ledgerLowest", fn := fun _ => fun
  | [d1, d2] => { results := [.lit (.bool true)], args := [d1, d2] }
  | _ => none }
def ledgerLowestRow : OpenClaim := { program := "ytkldfjlbgmppfab", sum := "7e5a2563d76076f2ae9fc07bad269eba9f1c6aa7cbe112e493f6070d7294cc7e", func := "millwright/millwrightlaw10.LedgerLowest", spec := "ledgerLowest", unfollowed := true, recurses := true, apart := false }
def LedgerLowestSaid : Prop := ledgerLowestRow.holds Try.pinned (OpenSpec.ofChange ledgerLowestSpec)

/-- ITS FALSE NEIGHBOUR: 'it returns false'. Refute it at one input. -/
def ledgerLowestWrong : ChangeSpec := { name := "ledgerLowest", fn := fun _ => fun
  | [d1, d2] => { results := [.lit (.bool false)], args := [d1, d2] }
  | _ => none }
def LedgerLowestWrongFalsely : Prop := ledgerLowestRow.holds Try.pinned (OpenSpec.ofChange ledgerLowestWrong)

/-- 'millwrightlaw10.LedgerFits': WHATEVER THE INPUT: true; the input reads as it did. -/
def ledgerFitsSpec : ChangeSpec := { name := "ledgerFits", fn := fun _ => fun
  | [d1, d2] => { results := [.lit (.bool true)], args := [d1, d2] }
  | _ => none }
def ledgerFitsRow : OpenClaim := { program := "ytkldfjlbgmppfab", sum := "7e5a2563d76076f2ae9fc07bad269eba9f1c6aa7cbe112e493f6070d7294cc7e", func := "millwright/millwrightlaw10.LedgerFits", spec := "ledgerFits", unfollowed := true, recurses := true, apart := false }
def LedgerFitsSaid : Prop := ledgerFitsRow.holds Try.pinned (OpenSpec.ofChange ledgerFitsSpec)

/-- ITS FALSE NEIGHBOUR: 'it returns false'. Refute it at one input. -/
def ledgerFitsWrong : ChangeSpec := { name := "ledgerFits", fn := fun _ => fun
  | [d1, d2] => { results := [.lit (.bool false)], args := [d1, d2] }
  | _ => none }
def LedgerFitsWrongFalsely : Prop := ledgerFitsRow.holds Try.pinned (OpenSpec.ofChange ledgerFitsWrong)

/-- 'millwrightlaw10.LedgerAgain': WHATEVER THE INPUT: true; the input reads as it did. -/
def ledgerAgainSpec : ChangeSpec := { name := "ledgerAgain", fn := fun _ => fun
  | [d1, d2, d3, d4] => { results := [.lit (.bool true)], args := [d1, d2, d3, d4] }
  | _ => none }
def ledgerAgainRow : OpenClaim := { program := "ytkldfjlbgmppfab", sum := "7e5a2563d76076f2ae9fc07bad269eba9f1c6aa7cbe112e493f6070d7294cc7e", func := "millwright/millwrightlaw10.LedgerAgain", spec := "ledgerAgain", unfollowed := true, recurses := true, apart := false }
def LedgerAgainSaid : Prop := ledgerAgainRow.holds Try.pinned (OpenSpec.ofChange ledgerAgainSpec)

/-- ITS FALSE NEIGHBOUR: 'it returns false'. Refute it at one input. -/
def ledgerAgainWrong : ChangeSpec := { name := "ledgerAgain", fn := fun _ => fun
  | [d1, d2, d3, d4] => { results := [.lit (.bool false)], args := [d1, d2, d3, d4] }
  | _ => none }
def LedgerAgainWrongFalsely : Prop := ledgerAgainRow.holds Try.pinned (OpenSpec.ofChange ledgerAgainWrong)

/-- 'millwrightlaw10.LedgerEmpties': WHATEVER THE INPUT: true; the input reads as it did. -/
def ledgerEmptiesSpec : ChangeSpec := { name := "ledgerEmpties", fn := fun _ => fun
  | [d1, d2, d3, d4] => { results := [.lit (.bool true)], args := [d1, d2, d3, d4] }
  | _ => none }
def ledgerEmptiesRow : OpenClaim := { program := "ytkldfjlbgmppfab", sum := "7e5a2563d76076f2ae9fc07bad269eba9f1c6aa7cbe112e493f6070d7294cc7e", func := "millwright/millwrightlaw10.LedgerEmpties", spec := "ledgerEmpties", unfollowed := true, recurses := true, apart := false }
def LedgerEmptiesSaid : Prop := ledgerEmptiesRow.holds Try.pinned (OpenSpec.ofChange ledgerEmptiesSpec)

/-- ITS FALSE NEIGHBOUR: 'it returns false'. Refute it at one input. -/
def ledgerEmptiesWrong : ChangeSpec := { name := "ledgerEmpties", fn := fun _ => fun
  | [d1, d2, d3, d4] => { results := [.lit (.bool false)], args := [d1, d2, d3, d4] }
  | _ => none }
def LedgerEmptiesWrongFalsely : Prop := ledgerEmptiesRow.holds Try.pinned (OpenSpec.ofChange ledgerEmptiesWrong)

/-- 'millwrightlaw09.LifeTells': WHATEVER THE INPUT: true; the input reads as it did. -/
def lifeTellsSpec : ChangeSpec := { name := "lifeTells", fn := fun _ => fun
  | [d1, d2, d3, d4] => { results := [.lit (.bool true)], args := [d1, d2, d3, d4] }
  | _ => none }
def lifeTellsRow : OpenClaim := { program := "ytkldfjlbgmppfab", sum := "7e5a2563d76076f2ae9fc07bad269eba9f1c6aa7cbe112e493f6070d7294cc7e", func := "millwright/millwrightlaw09.LifeTells", spec := "lifeTells", apart := false }
def LifeTellsSaid : Prop := lifeTellsRow.holds Try.pinned (OpenSpec.ofChange lifeTellsSpec)

/-- ITS FALSE NEIGHBOUR: 'it returns false'. Refute it at one input. -/
def lifeTellsWrong : ChangeSpec := { name := "lifeTells", fn := fun _ => fun
  | [d1, d2, d3, d4] => { results := [.lit (.bool false)], args := [d1, d2, d3, d4] }
  | _ => none }
def LifeTellsWrongFalsely : Prop := lifeTellsRow.holds Try.pinned (OpenSpec.ofChange lifeTellsWrong)

/-- 'millwrightlaw09.LifeBounds': WHATEVER THE INPUT: true; the input reads as it did. -/
def lifeBoundsSpec : ChangeSpec := { name := "lifeBounds", fn := fun _ => fun
  | [d1, d2, d3] => { results := [.lit (.bool true)], args := [d1, d2, d3] }
  | _ => none }
def lifeBoundsRow : OpenClaim := { program := "ytkldfjlbgmppfab", sum := "7e5a2563d76076f2ae9fc07bad269eba9f1c6aa7cbe112e493f6070d7294cc7e", func := "millwright/millwrightlaw09.LifeBounds", spec := "lifeBounds", apart := false }
def LifeBoundsSaid : Prop := lifeBoundsRow.holds Try.pinned (OpenSpec.ofChange lifeBoundsSpec)

/-- ITS FALSE NEIGHBOUR: 'it returns false'. Refute it at one input. -/
def lifeBoundsWrong : ChangeSpec := { name := "lifeBounds", fn := fun _ => fun
  | [d1, d2, d3] => { results := [.lit (.bool false)], args := [d1, d2, d3] }
  | _ => none }
def LifeBoundsWrongFalsely : Prop := lifeBoundsRow.holds Try.pinned (OpenSpec.ofChange lifeBoundsWrong)

/-- 'millwrightlaw09.LifeOnce': WHATEVER THE INPUT: true; the input reads as it did. -/
def lifeOnceSpec : ChangeSpec := { name := "lifeOnce", fn := fun _ => fun
  | [d1, d2, d3] => { results := [.lit (.bool true)], args := [d1, d2, d3] }
  | _ => none }
def lifeOnceRow : OpenClaim := { program := "ytkldfjlbgmppfab", sum := "7e5a2563d76076f2ae9fc07bad269eba9f1c6aa7cbe112e493f6070d7294cc7e", func := "millwright/millwrightlaw09.LifeOnce", spec := "lifeOnce", apart := false }
def LifeOnceSaid : Prop := lifeOnceRow.holds Try.pinned (OpenSpec.ofChange lifeOnceSpec)

/-- ITS FALSE NEIGHBOUR: 'it returns false'. Refute it at one input. -/
def lifeOnceWrong : ChangeSpec := { name := "lifeOnce", fn := fun _ => fun
  | [d1, d2, d3] => { results := [.lit (.bool false)], args := [d1, d2, d3] }
  | _ => none }
def LifeOnceWrongFalsely : Prop := lifeOnceRow.holds Try.pinned (OpenSpec.ofChange lifeOnceWrong)

/-- 'millwrightlaw09.LifeTurns': WHATEVER THE INPUT: true; the input reads as it did. -/
def lifeTurnsSpec : ChangeSpec := { name := "lifeTurns", fn := fun _ => fun
  | [d1, d2, d3] => { results := [.lit (.bool true)], args := [d1, d2, d3] }
  | _ => none }
def lifeTurnsRow : OpenClaim := { program := "ytkldfjlbgmppfab", sum := "7e5a2563d76076f2ae9fc07bad269eba9f1c6aa7cbe112e493f6070d7294cc7e", func := "millwright/millwrightlaw09.LifeTurns", spec := "lifeTurns", apart := false }
def LifeTurnsSaid : Prop := lifeTurnsRow.holds Try.pinned (OpenSpec.ofChange lifeTurnsSpec)

/-- ITS FALSE NEIGHBOUR: 'it returns false'. Refute it at one input. -/
def lifeTurnsWrong : ChangeSpec := { name := "lifeTurns", fn := fun _ => fun
  | [d1, d2, d3] => { results := [.lit (.bool false)], args := [d1, d2, d3] }
  | _ => none }
def LifeTurnsWrongFalsely : Prop := lifeTurnsRow.holds Try.pinned (OpenSpec.ofChange lifeTurnsWrong)

/- THE SECOND FORM. 'bulk': how many values and letters a reading holds, each counted each time it is reached (what is shared counts as often as it is met; a slice's spare places count too). A statement '..UptoSaid' is the law's where the arguments, and the package variables that the reading takes, are together of bulk at most 1048576: NARROWER than '..Said'. Prove '..Said' where nothing that the law and all that it calls make is longer than what came in: it says more and counts as full. Else prove '..UptoSaid'. A law counts once. -/
mutual
def uptoBulk {H : Type} : DataW H → Nat
  | .lit (.string bytes) => bytes.length + 1
  | .lit _ => 1
  | .nil => 1
  | .ptr d => uptoBulk d + 1
  | .slice elems spare => uptoBulkAll elems + uptoBulkAll spare + 1
  | .agg parts => uptoBulkAll parts + 1
  | .iface _ d => uptoBulk d + 1
  | .map entries => uptoBulkEntries entries + 1
  | .held _ => 1
def uptoBulkAll {H : Type} : List (DataW H) → Nat
  | [] => 0
  | d :: r => uptoBulk d + uptoBulkAll r
def uptoBulkEntries {H : Type} : List (Lit × DataW H) → Nat
  | [] => 0
  | x :: r => uptoBulkEntry x + uptoBulkEntries r
def uptoBulkEntry {H : Type} : Lit × DataW H → Nat
  | (.string bytes, d) => bytes.length + uptoBulk d + 1
  | (_, d) => uptoBulk d + 1
 end
def uptoSmall : (H : Type) → List (DataW H) → Bool := fun _ ds => decide (uptoBulkAll ds ≤ 1048576)
def OpenSpec.upto (s : _root_.Go.ChangeSpec) : _root_.Go.OpenSpec := { _root_.Go.OpenSpec.ofChange s with cond := some uptoSmall }

/-- 'millwrightlaw09.LifeStops', WHERE WHAT IT READS IS OF BULK AT MOST 1048576: true; the input reads as it did. -/
def lifeStopsUptoRow : OpenClaim := { program := "ytkldfjlbgmppfab", sum := "7e5a2563d76076f2ae9fc07bad269eba9f1c6aa7cbe112e493f6070d7294cc7e", func := "millwright/millwrightlaw09.LifeStops", spec := "lifeStops", apart := false, narrowed := true }
def LifeStopsUptoSaid : Prop := lifeStopsUptoRow.holds Try.pinned (OpenSpec.upto lifeStopsSpec)

/-- 'millwrightlaw10.LedgerPlays', WHERE WHAT IT READS IS OF BULK AT MOST 1048576: true; the input reads as it did. -/
def ledgerPlaysUptoRow : OpenClaim := { program := "ytkldfjlbgmppfab", sum := "7e5a2563d76076f2ae9fc07bad269eba9f1c6aa7cbe112e493f6070d7294cc7e", func := "millwright/millwrightlaw10.LedgerPlays", spec := "ledgerPlays", unfollowed := true, recurses := true, apart := false, narrowed := true }
def LedgerPlaysUptoSaid : Prop := ledgerPlaysUptoRow.holds Try.pinned (OpenSpec.upto ledgerPlaysSpec)

/-- 'millwrightlaw10.LedgerBounds', WHERE WHAT IT READS IS OF BULK AT MOST 1048576: true; the input reads as it did. -/
def ledgerBoundsUptoRow : OpenClaim := { program := "ytkldfjlbgmppfab", sum := "7e5a2563d76076f2ae9fc07bad269eba9f1c6aa7cbe112e493f6070d7294cc7e", func := "millwright/millwrightlaw10.LedgerBounds", spec := "ledgerBounds", unfollowed := true, recurses := true, apart := false, narrowed := true }
def LedgerBoundsUptoSaid : Prop := ledgerBoundsUptoRow.holds Try.pinned (OpenSpec.upto ledgerBoundsSpec)

/-- 'millwrightlaw10.LedgerBack', WHERE WHAT IT READS IS OF BULK AT MOST 1048576: true; the input reads as it did. -/
def ledgerBackUptoRow : OpenClaim := { program := "ytkldfjlbgmppfab", sum := "7e5a2563d76076f2ae9fc07bad269eba9f1c6aa7cbe112e493f6070d7294cc7e", func := "millwright/millwrightlaw10.LedgerBack", spec := "ledgerBack", unfollowed := true, recurses := true, apart := false, narrowed := true }
def LedgerBackUptoSaid : Prop := ledgerBackUptoRow.holds Try.pinned (OpenSpec.upto ledgerBackSpec)

/-- 'millwrightlaw10.LedgerLowest', WHERE WHAT IT READS IS OF BULK AT MOST 1048576: true; the input reads as it did. -/
def ledgerLowestUptoRow : OpenClaim := { program := "ytkldfjlbgmppfab", sum := "7e5a2563d76076f2ae9fc07bad269eba9f1c6aa7cbe112e493f6070d7294cc7e", func := "millwright/millwrightlaw10.LedgerLowest", spec := "ledgerLowest", unfollowed := true, recurses := true, apart := false, narrowed := true }
def LedgerLowestUptoSaid : Prop := ledgerLowestUptoRow.holds Try.pinned (OpenSpec.upto ledgerLowestSpec)

/-- 'millwrightlaw10.LedgerFits', WHERE WHAT IT READS IS OF BULK AT MOST 1048576: true; the input reads as it did. -/
def ledgerFitsUptoRow : OpenClaim := { program := "ytkldfjlbgmppfab", sum := "7e5a2563d76076f2ae9fc07bad269eba9f1c6aa7cbe112e493f6070d7294cc7e", func := "millwright/millwrightlaw10.LedgerFits", spec := "ledgerFits", unfollowed := true, recurses := true, apart := false, narrowed := true }
def LedgerFitsUptoSaid : Prop := ledgerFitsUptoRow.holds Try.pinned (OpenSpec.upto ledgerFitsSpec)

/-- 'millwrightlaw10.LedgerAgain', WHERE WHAT IT READS IS OF BULK AT MOST 1048576: true; the input reads as it did. -/
def ledgerAgainUptoRow : OpenClaim := { program := "ytkldfjlbgmppfab", sum := "7e5a2563d76076f2ae9fc07bad269eba9f1c6aa7cbe112e493f6070d7294cc7e", func := "millwright/millwrightlaw10.LedgerAgain", spec := "ledgerAgain", unfollowed := true, recurses := true, apart := false, narrowed := true }
def LedgerAgainUptoSaid : Prop := ledgerAgainUptoRow.holds Try.pinned (OpenSpec.upto ledgerAgainSpec)

/-- 'millwrightlaw10.LedgerEmpties', WHERE WHAT IT READS IS OF BULK AT MOST 1048576: true; the input reads as it did. -/
def ledgerEmptiesUptoRow : OpenClaim := { program := "ytkldfjlbgmppfab", sum := "7e5a2563d76076f2ae9fc07bad269eba9f1c6aa7cbe112e493f6070d7294cc7e", func := "millwright/millwrightlaw10.LedgerEmpties", spec := "ledgerEmpties", unfollowed := true, recurses := true, apart := false, narrowed := true }
def LedgerEmptiesUptoSaid : Prop := ledgerEmptiesUptoRow.holds Try.pinned (OpenSpec.upto ledgerEmptiesSpec)

/-- 'millwrightlaw09.LifeTells', WHERE WHAT IT READS IS OF BULK AT MOST 1048576: true; the input reads as it did. -/
def lifeTellsUptoRow : OpenClaim := { program := "ytkldfjlbgmppfab", sum := "7e5a2563d76076f2ae9fc07bad269eba9f1c6aa7cbe112e493f6070d7294cc7e", func := "millwright/millwrightlaw09.LifeTells", spec := "lifeTells", apart := false, narrowed := true }
def LifeTellsUptoSaid : Prop := lifeTellsUptoRow.holds Try.pinned (OpenSpec.upto lifeTellsSpec)

/-- 'millwrightlaw09.LifeBounds', WHERE WHAT IT READS IS OF BULK AT MOST 1048576: true; the input reads as it did. -/
def lifeBoundsUptoRow : OpenClaim := { program := "ytkldfjlbgmppfab", sum := "7e5a2563d76076f2ae9fc07bad269eba9f1c6aa7cbe112e493f6070d7294cc7e", func := "millwright/millwrightlaw09.LifeBounds", spec := "lifeBounds", apart := false, narrowed := true }
def LifeBoundsUptoSaid : Prop := lifeBoundsUptoRow.holds Try.pinned (OpenSpec.upto lifeBoundsSpec)

/-- 'millwrightlaw09.LifeOnce', WHERE WHAT IT READS IS OF BULK AT MOST 1048576: true; the input reads as it did. -/
def lifeOnceUptoRow : OpenClaim := { program := "ytkldfjlbgmppfab", sum := "7e5a2563d76076f2ae9fc07bad269eba9f1c6aa7cbe112e493f6070d7294cc7e", func := "millwright/millwrightlaw09.LifeOnce", spec := "lifeOnce", apart := false, narrowed := true }
def LifeOnceUptoSaid : Prop := lifeOnceUptoRow.holds Try.pinned (OpenSpec.upto lifeOnceSpec)

/-- 'millwrightlaw09.LifeTurns', WHERE WHAT IT READS IS OF BULK AT MOST 1048576: true; the input reads as it did. -/
def lifeTurnsUptoRow : OpenClaim := { program := "ytkldfjlbgmppfab", sum := "7e5a2563d76076f2ae9fc07bad269eba9f1c6aa7cbe112e493f6070d7294cc7e", func := "millwright/millwrightlaw09.LifeTurns", spec := "lifeTurns", apart := false, narrowed := true }
def LifeTurnsUptoSaid : Prop := lifeTurnsUptoRow.holds Try.pinned (OpenSpec.upto lifeTurnsSpec)

end Rows
end Go.Proofs.Ytkldfjlbgmppfab
