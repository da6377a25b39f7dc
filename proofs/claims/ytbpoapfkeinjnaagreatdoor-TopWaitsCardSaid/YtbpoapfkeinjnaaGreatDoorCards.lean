/-
  DERIVED. GIVEN WITH THE SEED: THE CARDS: each row of YtbpoapfkeinjnaaGreatDoorRows.lean that lists a variable, with what it lists TIED to the program's text (the seventh form; the later family's looks); each row that meets fmt, with fmt's text TOLD by the authors' own Lean function (tested against real Go, not proved from fmt's source: count such statements apart). THE CARD IS WHAT COUNTS. Prove the row's statement (the work); the ties are given (YtbpoapfkeinjnaaGreatDoorTie.lean); close each card by the builder's one call (the guide's Derived/Test/ToyasCard.lean, 'card_holds'). Laid BY PROGRAM, IN A SANDBOX (cutbox-door.mjs). By AI agents, Wed Nov 11 2026. No macro, syntax, notation, axiom, sorry.
-/
import Derived.Test.YtbpoapfkeinjnaaGreatDoorRows
import GoSem.ClaimSeven
namespace Go.Proofs.YtbpoapfkeinjnaaGreatDoor
namespace Rows

/-- THE TIED CARD OF 'millwrighttop.TopFair'. -/
def topFairCard : Claim7 := { stood := { row := topFairRow, standIns := [], harness := (true, "fdf5682eea6c003df15aa2b5a6dacaea0dd678e15468e1fedeab7a380df4fff2"), looks := true }, kinds := [], alts := [], laidByText := true, laidKinds := [.data, .mapped], laidTests := true, laidLooks := .later }
def TopFairCardSaid : Prop := Claim7.holds Tryz.pinned (.plain (OpenSpec.ofChange topFairSpec)) topFairCard

/-- THE TIED CARD OF 'millwrighttop.TopWaits'. -/
def topWaitsCard : Claim7 := { stood := { row := topWaitsRow, standIns := [], harness := (true, "fdf5682eea6c003df15aa2b5a6dacaea0dd678e15468e1fedeab7a380df4fff2"), looks := true }, kinds := [], alts := [], laidByText := true, laidKinds := [.data, .mapped], laidTests := true, laidLooks := .later }
def TopWaitsCardSaid : Prop := Claim7.holds Tryz.pinned (.plain (OpenSpec.ofChange topWaitsSpec)) topWaitsCard

/-- THE SECOND FORM's CARD OF 'millwrighttop.TopFair'. -/
def topFairUptoCard : Claim7 := { stood := { row := topFairUptoRow, standIns := [], harness := (true, "fdf5682eea6c003df15aa2b5a6dacaea0dd678e15468e1fedeab7a380df4fff2"), looks := true }, kinds := [], alts := [], laidByText := true, laidKinds := [.data, .mapped], laidTests := true, laidLooks := .later }
def TopFairUptoCardSaid : Prop := Claim7.holds Tryz.pinned (.plain (OpenSpec.upto topFairSpec)) topFairUptoCard

/-- THE SECOND FORM's CARD OF 'millwrighttop.TopWaits'. -/
def topWaitsUptoCard : Claim7 := { stood := { row := topWaitsUptoRow, standIns := [], harness := (true, "fdf5682eea6c003df15aa2b5a6dacaea0dd678e15468e1fedeab7a380df4fff2"), looks := true }, kinds := [], alts := [], laidByText := true, laidKinds := [.data, .mapped], laidTests := true, laidLooks := .later }
def TopWaitsUptoCardSaid : Prop := Claim7.holds Tryz.pinned (.plain (OpenSpec.upto topWaitsSpec)) topWaitsUptoCard
end Rows
end Go.Proofs.YtbpoapfkeinjnaaGreatDoor
