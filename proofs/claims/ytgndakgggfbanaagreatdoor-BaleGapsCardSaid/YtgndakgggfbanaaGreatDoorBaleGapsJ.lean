/- BaleGaps: the card. Conditions: none. -/
import Derived.Test.YtgndakgggfbanaaGreatDoorBaleGapsBJ
namespace Go.Proofs.YtgndakgggfbanaaGreatDoor
open Go.ChangeShapes Go.WideShapes Go.ChangeAt Go.RowKit Go.Deep Go.Joins
set_option maxRecDepth 100000
set_option maxHeartbeats 4000000
theorem baleGaps_wf : Rows.baleGapsRow.wfByText (OpenSpec.ofChange Rows.baleGapsSpec) = true := by kernel_rfl
theorem baleGaps_goes : false = Rows.baleGapsRow.goesBy Tryz.pinned.checked.prog := by kernel_rfl
theorem baleGaps_named : Tryz.prog.funcNamed "codend/codendlaw05.BaleGaps" = some 4 := by kernel_rfl
theorem baleGaps_wants : ([44, 44].all fun u => !Tryz.prog.wantsStandIn u) = true := by kernel_rfl
theorem baleGaps_card : Rows.BaleGapsCardSaid :=
 Claim7.holds_tied_plain_at .later [] [.data, .data, .data, .data, .sentinel, .sentinel, .widerDeep, .pinned] true (true, "ca955d50b3fa918918618fde020628a82948f20dfbef8cd749ce1545e204e2b7") true
  baleGaps_holds (fun _ h => by cases h) baleGaps_wf (fun _ h => by cases h) baleGaps_row_tie rfl ⟨rfl, rfl⟩ law_main rfl
  (fun f fn hf hfn => by
   obtain rfl : f = 4 := Option.some.inj (baleGaps_named.symm.trans hf) |>.symm
   obtain rfl : fn = Tryz.f4 := (Option.some.inj (Tryz.func4.symm.trans hfn)).symm
   exact ⟨law_looks, fun j t ht => by
    rw [Tryz.params4] at ht
    have hm : t ∈ [44, 44] := by simpa using Array.mem_of_getElem? ht
    exact (show Tryz.prog.wantsStandIn t = false by simpa using List.all_eq_true.1 baleGaps_wants t hm)⟩)
  baleGaps_goes
end Go.Proofs.YtgndakgggfbanaaGreatDoor
