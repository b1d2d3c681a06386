/- NettingSheets: the card. Conditions: none. -/
import Derived.Test.YtkmjcoofkgpanaaGreatDoorB21
import Derived.Test.YtkmjcoofkgpanaaGreatDoorNettingSheetsBJ
namespace Go.Proofs.YtkmjcoofkgpanaaGreatDoor
open Go.ChangeShapes Go.WideShapes Go.ChangeAt Go.RowKit Go.Deep Go.Joins
set_option maxRecDepth 100000
set_option maxHeartbeats 4000000
theorem nettingSheets_wf : Rows.nettingSheetsRow.wfByText (OpenSpec.ofChange Rows.nettingSheetsSpec) = true := by kernel_rfl
theorem nettingSheets_goes : false = Rows.nettingSheetsRow.goesBy Tryz.pinned.checked.prog := by kernel_rfl
theorem nettingSheets_named : Tryz.prog.funcNamed "codend/codendlaw01.NettingSheets" = some 3 := by kernel_rfl
theorem nettingSheets_wants : ([23, 3, 3].all fun u => !Tryz.prog.wantsStandIn u) = true := by kernel_rfl
theorem nettingSheets_card : Rows.NettingSheetsCardSaid :=
  Claim7.holds_tied_plain_at .later [] [.data, .data, .data, .data, .sentinel, .sentinel, .pinned] true (true, "990ad92517b89351c2f246a75ca85d757c4da301d35f2805c3b6a46fdce1c356") true
    nettingSheets_holds (fun _ h => by cases h) nettingSheets_wf (fun _ h => by cases h) nettingSheets_row_tie rfl ⟨rfl, rfl⟩ law_main rfl
    (fun f fn hf hfn => by
      obtain rfl : f = 3 := Option.some.inj (nettingSheets_named.symm.trans hf) |>.symm
      obtain rfl : fn = Tryz.f3 := (Option.some.inj (Tryz.func3.symm.trans hfn)).symm
      exact ⟨law_looks, fun j t ht => by
        rw [Tryz.params3] at ht
        have hm : t ∈ [23, 3, 3] := by simpa using Array.mem_of_getElem? ht
        exact (show Tryz.prog.wantsStandIn t = false by simpa using List.all_eq_true.1 nettingSheets_wants t hm)⟩)
    nettingSheets_goes
end Go.Proofs.YtkmjcoofkgpanaaGreatDoor
