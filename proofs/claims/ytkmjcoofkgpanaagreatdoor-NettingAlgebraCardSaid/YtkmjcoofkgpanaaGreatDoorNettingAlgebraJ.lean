/- NettingAlgebra: the card. Conditions: none. -/
import Derived.Test.YtkmjcoofkgpanaaGreatDoorB21
import Derived.Test.YtkmjcoofkgpanaaGreatDoorNettingAlgebraBJ
namespace Go.Proofs.YtkmjcoofkgpanaaGreatDoor
open Go.ChangeShapes Go.WideShapes Go.ChangeAt Go.RowKit Go.Deep Go.Joins
set_option maxRecDepth 100000
set_option maxHeartbeats 4000000
theorem nettingAlgebra_wf : Rows.nettingAlgebraRow.wfByText (OpenSpec.ofChange Rows.nettingAlgebraSpec) = true := by kernel_rfl
theorem nettingAlgebra_goes : false = Rows.nettingAlgebraRow.goesBy Tryz.pinned.checked.prog := by kernel_rfl
theorem nettingAlgebra_named : Tryz.prog.funcNamed "codend/codendlaw01.NettingAlgebra" = some 14 := by kernel_rfl
theorem nettingAlgebra_wants : ([26, 26, 23].all fun u => !Tryz.prog.wantsStandIn u) = true := by kernel_rfl
theorem nettingAlgebra_card : Rows.NettingAlgebraCardSaid :=
  Claim7.holds_tied_plain_at .later [] [.data, .data, .data, .data, .sentinel, .sentinel, .pinned] true (true, "990ad92517b89351c2f246a75ca85d757c4da301d35f2805c3b6a46fdce1c356") true
    nettingAlgebra_holds (fun _ h => by cases h) nettingAlgebra_wf (fun _ h => by cases h) nettingAlgebra_row_tie rfl ⟨rfl, rfl⟩ law_main rfl
    (fun f fn hf hfn => by
      obtain rfl : f = 14 := Option.some.inj (nettingAlgebra_named.symm.trans hf) |>.symm
      obtain rfl : fn = Tryz.f14 := (Option.some.inj (Tryz.func14.symm.trans hfn)).symm
      exact ⟨law_looks, fun j t ht => by
        rw [Tryz.params14] at ht
        have hm : t ∈ [26, 26, 23] := by simpa using Array.mem_of_getElem? ht
        exact (show Tryz.prog.wantsStandIn t = false by simpa using List.all_eq_true.1 nettingAlgebra_wants t hm)⟩)
    nettingAlgebra_goes
end Go.Proofs.YtkmjcoofkgpanaaGreatDoor
