/- BaleTight: the card. Conditions: none. -/
import Derived.Test.YtgndakgggfbanaaGreatDoorBaleTightBJ
namespace Go.Proofs.YtgndakgggfbanaaGreatDoor
open Go.ChangeShapes Go.WideShapes Go.ChangeAt Go.RowKit Go.Deep Go.Joins
set_option maxRecDepth 100000
set_option maxHeartbeats 4000000
theorem baleTight_wf : Rows.baleTightRow.wfByText (OpenSpec.ofChange Rows.baleTightSpec) = true := by kernel_rfl
theorem baleTight_goes : false = Rows.baleTightRow.goesBy Tryz.pinned.checked.prog := by kernel_rfl
theorem baleTight_named : Tryz.prog.funcNamed "codend/codendlaw05.BaleTight" = some 5 := by kernel_rfl
theorem baleTight_wants : ([44, 44, 5].all fun u => !Tryz.prog.wantsStandIn u) = true := by kernel_rfl
theorem baleTight_card : Rows.BaleTightCardSaid :=
 Claim7.holds_tied_plain_at .later [] [.data, .data, .data, .data, .sentinel, .sentinel, .widerDeep, .pinned] true (true, "ca955d50b3fa918918618fde020628a82948f20dfbef8cd749ce1545e204e2b7") true
  baleTight_holds (fun _ h => by cases h) baleTight_wf (fun _ h => by cases h) baleTight_row_tie rfl ⟨rfl, rfl⟩ law_main rfl
  (fun f fn hf hfn => by
   obtain rfl : f = 5 := Option.some.inj (baleTight_named.symm.trans hf) |>.symm
   obtain rfl : fn = Tryz.f5 := (Option.some.inj (Tryz.func5.symm.trans hfn)).symm
   exact ⟨law_looks, fun j t ht => by
    rw [Tryz.params5] at ht
    have hm : t ∈ [44, 44, 5] := by simpa using Array.mem_of_getElem? ht
    exact (show Tryz.prog.wantsStandIn t = false by simpa using List.all_eq_true.1 baleTight_wants t hm)⟩)
  baleTight_goes
end Go.Proofs.YtgndakgggfbanaaGreatDoor
