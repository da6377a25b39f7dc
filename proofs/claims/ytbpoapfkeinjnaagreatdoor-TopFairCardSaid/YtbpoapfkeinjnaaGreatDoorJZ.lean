/- The tied card of TopFair: requests of one priority that always have something ready get as much, by weight, but for two quanta and a cost; the two package variables are tied to the program's text. No condition besides. -/
import Derived.Test.YtbpoapfkeinjnaaGreatDoorJ31
import Derived.Test.YtbpoapfkeinjnaaGreatDoorCards
import Derived.Test.YtbpoapfkeinjnaaGreatDoorTie
import Derived.SevenTiedAt
namespace Go.Proofs.YtbpoapfkeinjnaaGreatDoor
open Go
theorem topFairCard_holds : Rows.TopFairCardSaid :=
  Claim7.holds_tied_plain_at .later [] [.data, .mapped] true (true, "fdf5682eea6c003df15aa2b5a6dacaea0dd678e15468e1fedeab7a380df4fff2") true
    topFair_holds (fun _ h => by cases h) (by kernel_rfl) (fun _ h => by cases h) topFair_row_tie rfl ⟨rfl, rfl⟩ (by kernel_rfl) rfl
    (fun f fn hf hfn => by
      obtain rfl : f = 3 := Option.some.inj ((show Tryz.prog.funcNamed "millwright/millwrighttop.TopFair" = some 3 by kernel_rfl).symm.trans hf) |>.symm
      obtain rfl : fn = Tryz.f3 := (Option.some.inj (Tryz.func3.symm.trans hfn)).symm
      exact ⟨by kernel_rfl, fun j t ht => by
        rw [Tryz.params3] at ht
        have hm : t ∈ [3, 22, 3] := by simpa using Array.mem_of_getElem? ht
        have hall : ([3, 22, 3].all fun u => !Tryz.prog.wantsStandIn u) = true := by kernel_rfl
        exact (show Tryz.prog.wantsStandIn t = false by simpa using List.all_eq_true.1 hall t hm)⟩)
    (by kernel_rfl)
#print axioms topFairCard_holds
end Go.Proofs.YtbpoapfkeinjnaaGreatDoor
