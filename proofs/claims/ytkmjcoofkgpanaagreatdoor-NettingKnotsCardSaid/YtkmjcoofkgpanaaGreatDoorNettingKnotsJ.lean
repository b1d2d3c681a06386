/- NettingKnots: the card. Conditions: none. -/
import Derived.Test.YtkmjcoofkgpanaaGreatDoorB21
import Derived.Test.YtkmjcoofkgpanaaGreatDoorNettingKnotsBJ
namespace Go.Proofs.YtkmjcoofkgpanaaGreatDoor
open Go.ChangeShapes Go.WideShapes Go.ChangeAt Go.RowKit Go.Deep Go.Joins
set_option maxRecDepth 100000
set_option maxHeartbeats 4000000
theorem nettingKnots_wf : Rows.nettingKnotsRow.wfByText (OpenSpec.ofChange Rows.nettingKnotsSpec) = true := by kernel_rfl
theorem nettingKnots_goes : false = Rows.nettingKnotsRow.goesBy Tryz.pinned.checked.prog := by kernel_rfl
theorem nettingKnots_named : Tryz.prog.funcNamed "codend/codendlaw01.NettingKnots" = some 8 := by kernel_rfl
theorem nettingKnots_wants : ([26, 23].all fun u => !Tryz.prog.wantsStandIn u) = true := by kernel_rfl
theorem nettingKnots_card : Rows.NettingKnotsCardSaid :=
  Claim7.holds_tied_plain_at .later [] [.data, .data, .data, .data, .sentinel, .sentinel, .pinned] true (true, "990ad92517b89351c2f246a75ca85d757c4da301d35f2805c3b6a46fdce1c356") true
    nettingKnots_holds (fun _ h => by cases h) nettingKnots_wf (fun _ h => by cases h) nettingKnots_row_tie rfl ⟨rfl, rfl⟩ law_main rfl
    (fun f fn hf hfn => by
      obtain rfl : f = 8 := Option.some.inj (nettingKnots_named.symm.trans hf) |>.symm
      obtain rfl : fn = Tryz.f8 := (Option.some.inj (Tryz.func8.symm.trans hfn)).symm
      exact ⟨law_looks, fun j t ht => by
        rw [Tryz.params8] at ht
        have hm : t ∈ [26, 23] := by simpa using Array.mem_of_getElem? ht
        exact (show Tryz.prog.wantsStandIn t = false by simpa using List.all_eq_true.1 nettingKnots_wants t hm)⟩)
    nettingKnots_goes
end Go.Proofs.YtkmjcoofkgpanaaGreatDoor
