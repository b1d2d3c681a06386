/- NettingNames: the card. Conditions: none. -/
import Derived.Test.YtkmjcoofkgpanaaGreatDoorB21
import Derived.Test.YtkmjcoofkgpanaaGreatDoorNettingNamesBJ
namespace Go.Proofs.YtkmjcoofkgpanaaGreatDoor
open Go.ChangeShapes Go.WideShapes Go.ChangeAt Go.RowKit Go.Deep Go.Joins
set_option maxRecDepth 100000
set_option maxHeartbeats 4000000
theorem nettingNames_wf : Rows.nettingNamesRow.wfByText (OpenSpec.ofChange Rows.nettingNamesSpec) = true := by kernel_rfl
theorem nettingNames_goes : false = Rows.nettingNamesRow.goesBy Tryz.pinned.checked.prog := by kernel_rfl
theorem nettingNames_named : Tryz.prog.funcNamed "codend/codendlaw01.NettingNames" = some 13 := by kernel_rfl
theorem nettingNames_wants : ([9, 3, 3].all fun u => !Tryz.prog.wantsStandIn u) = true := by kernel_rfl
theorem nettingNames_card : Rows.NettingNamesCardSaid :=
  Claim7.holds_tied_plain_at .later [] [.data, .data, .data, .data, .sentinel, .sentinel, .pinned] true (true, "990ad92517b89351c2f246a75ca85d757c4da301d35f2805c3b6a46fdce1c356") true
    nettingNames_holds (fun _ h => by cases h) nettingNames_wf (fun _ h => by cases h) nettingNames_row_tie rfl ⟨rfl, rfl⟩ law_main rfl
    (fun f fn hf hfn => by
      obtain rfl : f = 13 := Option.some.inj (nettingNames_named.symm.trans hf) |>.symm
      obtain rfl : fn = Tryz.f13 := (Option.some.inj (Tryz.func13.symm.trans hfn)).symm
      exact ⟨law_looks, fun j t ht => by
        rw [Tryz.params13] at ht
        have hm : t ∈ [9, 3, 3] := by simpa using Array.mem_of_getElem? ht
        exact (show Tryz.prog.wantsStandIn t = false by simpa using List.all_eq_true.1 nettingNames_wants t hm)⟩)
    nettingNames_goes
end Go.Proofs.YtkmjcoofkgpanaaGreatDoor
