/- The tied card of TopWaits: a task that is done was done behind all that it said it needs, each of these ahead of its last beginning; the two package variables are tied to the text of the program. No condition besides. -/
import Derived.Test.YtbpoapfkeinjnaaGreatDoorK38
import Derived.Test.YtbpoapfkeinjnaaGreatDoorCards
import Derived.Test.YtbpoapfkeinjnaaGreatDoorTie
import Derived.SevenTiedAt
namespace Go.Proofs.YtbpoapfkeinjnaaGreatDoor
open Go
theorem topWaitsCard_holds : Rows.TopWaitsCardSaid :=
  Claim7.holds_tied_plain_at .later [] [.data, .mapped] true (true, "fdf5682eea6c003df15aa2b5a6dacaea0dd678e15468e1fedeab7a380df4fff2") true
    topWaits_holds (fun _ h => by cases h) (by kernel_rfl) (fun _ h => by cases h) topWaits_row_tie rfl ⟨rfl, rfl⟩ (by kernel_rfl) rfl
    (fun f fn hf hfn => by
      obtain rfl : f = 4 := Option.some.inj ((show Tryz.prog.funcNamed "millwright/millwrighttop.TopWaits" = some 4 by kernel_rfl).symm.trans hf) |>.symm
      obtain rfl : fn = Tryz.f4 := (Option.some.inj (Tryz.func4.symm.trans hfn)).symm
      exact ⟨by kernel_rfl, fun j t ht => by
        rw [Tryz.params4] at ht
        have hm : t ∈ [26, 27, 44] := by simpa using Array.mem_of_getElem? ht
        have hall : ([26, 27, 44].all fun u => !Tryz.prog.wantsStandIn u) = true := by kernel_rfl
        exact (show Tryz.prog.wantsStandIn t = false by simpa using List.all_eq_true.1 hall t hm)⟩)
    (by kernel_rfl)
#print axioms topWaitsCard_holds
end Go.Proofs.YtbpoapfkeinjnaaGreatDoor
