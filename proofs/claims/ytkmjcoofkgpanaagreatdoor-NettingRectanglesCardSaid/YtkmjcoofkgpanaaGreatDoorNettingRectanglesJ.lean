/- NettingRectangles: the card. Conditions: none. -/
import Derived.Test.YtkmjcoofkgpanaaGreatDoorB21
import Derived.Test.YtkmjcoofkgpanaaGreatDoorNettingRectanglesBJ
namespace Go.Proofs.YtkmjcoofkgpanaaGreatDoor
open Go.ChangeShapes Go.WideShapes Go.ChangeAt Go.RowKit Go.Deep Go.Joins
set_option maxRecDepth 100000
set_option maxHeartbeats 4000000
theorem nettingRectangles_wf : Rows.nettingRectanglesRow.wfByText (OpenSpec.ofChange Rows.nettingRectanglesSpec) = true := by kernel_rfl
theorem nettingRectangles_goes : false = Rows.nettingRectanglesRow.goesBy Tryz.pinned.checked.prog := by kernel_rfl
theorem nettingRectangles_named : Tryz.prog.funcNamed "codend/codendlaw01.NettingRectangles" = some 15 := by kernel_rfl
theorem nettingRectangles_wants : ([23, 116, 5].all fun u => !Tryz.prog.wantsStandIn u) = true := by kernel_rfl
theorem nettingRectangles_card : Rows.NettingRectanglesCardSaid :=
  Claim7.holds_tied_plain_at .later [] [.data, .data, .data, .data, .sentinel, .sentinel, .pinned] true (true, "990ad92517b89351c2f246a75ca85d757c4da301d35f2805c3b6a46fdce1c356") true
    nettingRectangles_holds (fun _ h => by cases h) nettingRectangles_wf (fun _ h => by cases h) nettingRectangles_row_tie rfl ⟨rfl, rfl⟩ law_main rfl
    (fun f fn hf hfn => by
      obtain rfl : f = 15 := Option.some.inj (nettingRectangles_named.symm.trans hf) |>.symm
      obtain rfl : fn = Tryz.f15 := (Option.some.inj (Tryz.func15.symm.trans hfn)).symm
      exact ⟨law_looks, fun j t ht => by
        rw [Tryz.params15] at ht
        have hm : t ∈ [23, 116, 5] := by simpa using Array.mem_of_getElem? ht
        exact (show Tryz.prog.wantsStandIn t = false by simpa using List.all_eq_true.1 nettingRectangles_wants t hm)⟩)
    nettingRectangles_goes
end Go.Proofs.YtkmjcoofkgpanaaGreatDoor
