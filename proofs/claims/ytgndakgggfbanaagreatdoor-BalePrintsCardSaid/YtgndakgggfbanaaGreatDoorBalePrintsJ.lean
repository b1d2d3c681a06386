/- BalePrints: the card. Conditions: none. -/
import Derived.Test.YtgndakgggfbanaaGreatDoorBalePrintsBJ
namespace Go.Proofs.YtgndakgggfbanaaGreatDoor
open Go.ChangeShapes Go.WideShapes Go.ChangeAt Go.RowKit Go.Deep Go.Joins
set_option maxRecDepth 100000
set_option maxHeartbeats 4000000
theorem balePrints_wf : Rows.balePrintsRow.wfByText (OpenSpec.ofChange Rows.balePrintsSpec) = true := by kernel_rfl
theorem balePrints_goes : false = Rows.balePrintsRow.goesBy Tryz.pinned.checked.prog := by kernel_rfl
theorem balePrints_named : Tryz.prog.funcNamed "codend/codendlaw05.BalePrints" = some 6 := by kernel_rfl
theorem balePrints_wants : ([25, 62, 9].all fun u => !Tryz.prog.wantsStandIn u) = true := by kernel_rfl
theorem balePrints_card : Rows.BalePrintsCardSaid :=
 Claim7.holds_tied_plain_at .later [] [.data, .data, .data, .data, .sentinel, .sentinel, .widerDeep, .pinned] true (true, "ca955d50b3fa918918618fde020628a82948f20dfbef8cd749ce1545e204e2b7") true
  balePrints_holds (fun _ h => by cases h) balePrints_wf (fun _ h => by cases h) balePrints_row_tie rfl ⟨rfl, rfl⟩ law_main rfl
  (fun f fn hf hfn => by
   obtain rfl : f = 6 := Option.some.inj (balePrints_named.symm.trans hf) |>.symm
   obtain rfl : fn = Tryz.f6 := (Option.some.inj (Tryz.func6.symm.trans hfn)).symm
   exact ⟨law_looks, fun j t ht => by
    rw [Tryz.params6] at ht
    have hm : t ∈ [25, 62, 9] := by simpa using Array.mem_of_getElem? ht
    exact (show Tryz.prog.wantsStandIn t = false by simpa using List.all_eq_true.1 balePrints_wants t hm)⟩)
  balePrints_goes
end Go.Proofs.YtgndakgggfbanaaGreatDoor
