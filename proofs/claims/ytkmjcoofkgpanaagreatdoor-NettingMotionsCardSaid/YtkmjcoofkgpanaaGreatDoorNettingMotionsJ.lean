/- NettingMotions: the card. Conditions: none. -/
import Derived.Test.YtkmjcoofkgpanaaGreatDoorB21
import Derived.Test.YtkmjcoofkgpanaaGreatDoorNettingMotionsBJ
namespace Go.Proofs.YtkmjcoofkgpanaaGreatDoor
open Go.ChangeShapes Go.WideShapes Go.ChangeAt Go.RowKit Go.Deep Go.Joins
set_option maxRecDepth 100000
set_option maxHeartbeats 4000000
theorem nettingMotions_wf : Rows.nettingMotionsRow.wfByText (OpenSpec.ofChange Rows.nettingMotionsSpec) = true := by kernel_rfl
theorem nettingMotions_goes : false = Rows.nettingMotionsRow.goesBy Tryz.pinned.checked.prog := by kernel_rfl
theorem nettingMotions_named : Tryz.prog.funcNamed "codend/codendlaw01.NettingMotions" = some 10 := by kernel_rfl
theorem nettingMotions_wants : ([26, 23, 3].all fun u => !Tryz.prog.wantsStandIn u) = true := by kernel_rfl
theorem nettingMotions_card : Rows.NettingMotionsCardSaid :=
  Claim7.holds_tied_plain_at .later [] [.data, .data, .data, .data, .sentinel, .sentinel, .pinned] true (true, "990ad92517b89351c2f246a75ca85d757c4da301d35f2805c3b6a46fdce1c356") true
    nettingMotions_holds (fun _ h => by cases h) nettingMotions_wf (fun _ h => by cases h) nettingMotions_row_tie rfl ⟨rfl, rfl⟩ law_main rfl
    (fun f fn hf hfn => by
      obtain rfl : f = 10 := Option.some.inj (nettingMotions_named.symm.trans hf) |>.symm
      obtain rfl : fn = Tryz.f10 := (Option.some.inj (Tryz.func10.symm.trans hfn)).symm
      exact ⟨law_looks, fun j t ht => by
        rw [Tryz.params10] at ht
        have hm : t ∈ [26, 23, 3] := by simpa using Array.mem_of_getElem? ht
        exact (show Tryz.prog.wantsStandIn t = false by simpa using List.all_eq_true.1 nettingMotions_wants t hm)⟩)
    nettingMotions_goes
end Go.Proofs.YtkmjcoofkgpanaaGreatDoor
