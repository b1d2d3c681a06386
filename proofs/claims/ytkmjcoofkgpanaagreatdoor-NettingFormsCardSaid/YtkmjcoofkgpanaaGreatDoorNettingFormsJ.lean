/- NettingForms: the card. Conditions: none. -/
import Derived.Test.YtkmjcoofkgpanaaGreatDoorB21
import Derived.Test.YtkmjcoofkgpanaaGreatDoorNettingFormsBJ
namespace Go.Proofs.YtkmjcoofkgpanaaGreatDoor
open Go.ChangeShapes Go.WideShapes Go.ChangeAt Go.RowKit Go.Deep Go.Joins
set_option maxRecDepth 100000
set_option maxHeartbeats 4000000
theorem nettingForms_wf : Rows.nettingFormsRow.wfByText (OpenSpec.ofChange Rows.nettingFormsSpec) = true := by kernel_rfl
theorem nettingForms_goes : false = Rows.nettingFormsRow.goesBy Tryz.pinned.checked.prog := by kernel_rfl
theorem nettingForms_named : Tryz.prog.funcNamed "codend/codendlaw01.NettingForms" = some 5 := by kernel_rfl
theorem nettingForms_wants : ([26].all fun u => !Tryz.prog.wantsStandIn u) = true := by kernel_rfl
theorem nettingForms_card : Rows.NettingFormsCardSaid :=
  Claim7.holds_tied_plain_at .later [] [.data, .data, .data, .data, .sentinel, .sentinel, .pinned] true (true, "990ad92517b89351c2f246a75ca85d757c4da301d35f2805c3b6a46fdce1c356") true
    nettingForms_holds (fun _ h => by cases h) nettingForms_wf (fun _ h => by cases h) nettingForms_row_tie rfl ⟨rfl, rfl⟩ law_main rfl
    (fun f fn hf hfn => by
      obtain rfl : f = 5 := Option.some.inj (nettingForms_named.symm.trans hf) |>.symm
      obtain rfl : fn = Tryz.f5 := (Option.some.inj (Tryz.func5.symm.trans hfn)).symm
      exact ⟨law_looks, fun j t ht => by
        rw [Tryz.params5] at ht
        have hm : t ∈ [26] := by simpa using Array.mem_of_getElem? ht
        exact (show Tryz.prog.wantsStandIn t = false by simpa using List.all_eq_true.1 nettingForms_wants t hm)⟩)
    nettingForms_goes
end Go.Proofs.YtkmjcoofkgpanaaGreatDoor
