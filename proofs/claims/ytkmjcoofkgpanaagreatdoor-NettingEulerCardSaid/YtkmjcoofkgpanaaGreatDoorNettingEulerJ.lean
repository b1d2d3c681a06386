/- NettingEuler: the card. Conditions: none. -/
import Derived.Test.YtkmjcoofkgpanaaGreatDoorB21
import Derived.Test.YtkmjcoofkgpanaaGreatDoorNettingEulerBJ
namespace Go.Proofs.YtkmjcoofkgpanaaGreatDoor
open Go.ChangeShapes Go.WideShapes Go.ChangeAt Go.RowKit Go.Deep Go.Joins
set_option maxRecDepth 100000
set_option maxHeartbeats 4000000
theorem nettingEuler_wf : Rows.nettingEulerRow.wfByText (OpenSpec.ofChange Rows.nettingEulerSpec) = true := by kernel_rfl
theorem nettingEuler_goes : false = Rows.nettingEulerRow.goesBy Tryz.pinned.checked.prog := by kernel_rfl
theorem nettingEuler_named : Tryz.prog.funcNamed "codend/codendlaw01.NettingEuler" = some 6 := by kernel_rfl
theorem nettingEuler_wants : ([26, 5].all fun u => !Tryz.prog.wantsStandIn u) = true := by kernel_rfl
theorem nettingEuler_card : Rows.NettingEulerCardSaid :=
  Claim7.holds_tied_plain_at .later [] [.data, .data, .data, .data, .sentinel, .sentinel, .pinned] true (true, "990ad92517b89351c2f246a75ca85d757c4da301d35f2805c3b6a46fdce1c356") true
    nettingEuler_holds (fun _ h => by cases h) nettingEuler_wf (fun _ h => by cases h) nettingEuler_row_tie rfl ⟨rfl, rfl⟩ law_main rfl
    (fun f fn hf hfn => by
      obtain rfl : f = 6 := Option.some.inj (nettingEuler_named.symm.trans hf) |>.symm
      obtain rfl : fn = Tryz.f6 := (Option.some.inj (Tryz.func6.symm.trans hfn)).symm
      exact ⟨law_looks, fun j t ht => by
        rw [Tryz.params6] at ht
        have hm : t ∈ [26, 5] := by simpa using Array.mem_of_getElem? ht
        exact (show Tryz.prog.wantsStandIn t = false by simpa using List.all_eq_true.1 nettingEuler_wants t hm)⟩)
    nettingEuler_goes
end Go.Proofs.YtkmjcoofkgpanaaGreatDoor
