/- NettingSets: the card. Conditions: none. -/
import Derived.Test.YtkmjcoofkgpanaaGreatDoorB21
import Derived.Test.YtkmjcoofkgpanaaGreatDoorNettingSetsBJ
namespace Go.Proofs.YtkmjcoofkgpanaaGreatDoor
open Go.ChangeShapes Go.WideShapes Go.ChangeAt Go.RowKit Go.Deep Go.Joins
set_option maxRecDepth 100000
set_option maxHeartbeats 4000000
theorem nettingSets_wf : Rows.nettingSetsRow.wfByText (OpenSpec.ofChange Rows.nettingSetsSpec) = true := by kernel_rfl
theorem nettingSets_goes : false = Rows.nettingSetsRow.goesBy Tryz.pinned.checked.prog := by kernel_rfl
theorem nettingSets_named : Tryz.prog.funcNamed "codend/codendlaw01.NettingSets" = some 9 := by kernel_rfl
theorem nettingSets_wants : ([26, 26].all fun u => !Tryz.prog.wantsStandIn u) = true := by kernel_rfl
theorem nettingSets_card : Rows.NettingSetsCardSaid :=
  Claim7.holds_tied_plain_at .later [] [.data, .data, .data, .data, .sentinel, .sentinel, .pinned] true (true, "990ad92517b89351c2f246a75ca85d757c4da301d35f2805c3b6a46fdce1c356") true
    nettingSets_holds (fun _ h => by cases h) nettingSets_wf (fun _ h => by cases h) nettingSets_row_tie rfl ⟨rfl, rfl⟩ law_main rfl
    (fun f fn hf hfn => by
      obtain rfl : f = 9 := Option.some.inj (nettingSets_named.symm.trans hf) |>.symm
      obtain rfl : fn = Tryz.f9 := (Option.some.inj (Tryz.func9.symm.trans hfn)).symm
      exact ⟨law_looks, fun j t ht => by
        rw [Tryz.params9] at ht
        have hm : t ∈ [26, 26] := by simpa using Array.mem_of_getElem? ht
        exact (show Tryz.prog.wantsStandIn t = false by simpa using List.all_eq_true.1 nettingSets_wants t hm)⟩)
    nettingSets_goes
end Go.Proofs.YtkmjcoofkgpanaaGreatDoor
