/- NettingPrints: the card. Conditions: none. -/
import Derived.Test.YtkmjcoofkgpanaaGreatDoorB21
import Derived.Test.YtkmjcoofkgpanaaGreatDoorNettingPrintsBJ
namespace Go.Proofs.YtkmjcoofkgpanaaGreatDoor
open Go.ChangeShapes Go.WideShapes Go.ChangeAt Go.RowKit Go.Deep Go.Joins
set_option maxRecDepth 100000
set_option maxHeartbeats 4000000
theorem nettingPrints_wf : Rows.nettingPrintsRow.wfByText (OpenSpec.ofChange Rows.nettingPrintsSpec) = true := by kernel_rfl
theorem nettingPrints_goes : false = Rows.nettingPrintsRow.goesBy Tryz.pinned.checked.prog := by kernel_rfl
theorem nettingPrints_named : Tryz.prog.funcNamed "codend/codendlaw01.NettingPrints" = some 7 := by kernel_rfl
theorem nettingPrints_wants : ([26, 9].all fun u => !Tryz.prog.wantsStandIn u) = true := by kernel_rfl
theorem nettingPrints_card : Rows.NettingPrintsCardSaid :=
  Claim7.holds_tied_plain_at .later [] [.data, .data, .data, .data, .sentinel, .sentinel, .pinned] true (true, "990ad92517b89351c2f246a75ca85d757c4da301d35f2805c3b6a46fdce1c356") true
    nettingPrints_holds (fun _ h => by cases h) nettingPrints_wf (fun _ h => by cases h) nettingPrints_row_tie rfl ⟨rfl, rfl⟩ law_main rfl
    (fun f fn hf hfn => by
      obtain rfl : f = 7 := Option.some.inj (nettingPrints_named.symm.trans hf) |>.symm
      obtain rfl : fn = Tryz.f7 := (Option.some.inj (Tryz.func7.symm.trans hfn)).symm
      exact ⟨law_looks, fun j t ht => by
        rw [Tryz.params7] at ht
        have hm : t ∈ [26, 9] := by simpa using Array.mem_of_getElem? ht
        exact (show Tryz.prog.wantsStandIn t = false by simpa using List.all_eq_true.1 nettingPrints_wants t hm)⟩)
    nettingPrints_goes
end Go.Proofs.YtkmjcoofkgpanaaGreatDoor
