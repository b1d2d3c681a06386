/- BalePlans: the card. Conditions: none. -/
import Derived.Test.YtpcgeihemkhkjaaGreatDoorBalePlansBJ
namespace Go.Proofs.YtpcgeihemkhkjaaGreatDoor
open Go.ChangeShapes Go.WideShapes Go.ChangeAt Go.RowKit Go.Deep Go.Joins
set_option maxRecDepth 100000
set_option maxHeartbeats 4000000
theorem balePlans_wf : Rows.balePlansRow.wfByText (OpenSpec.ofChange Rows.balePlansSpec) = true := by kernel_rfl
theorem balePlans_goes : false = Rows.balePlansRow.goesBy Tryz.pinned.checked.prog := by kernel_rfl
theorem balePlans_named : Tryz.prog.funcNamed "codend/codendlaw05.BalePlans" = some 4 := by kernel_rfl
theorem balePlans_wants : ([48, 22, 45].all fun u => !Tryz.prog.wantsStandIn u) = true := by kernel_rfl
theorem balePlans_card : Rows.BalePlansCardSaid :=
 Claim7.holds_tied_plain_at .later [] [.data, .data, .data, .data, .sentinel, .sentinel, .widerDeep, .pinned] true (true, "3da20f59901f6bc20089874a21517bae1878a1d2eefccfcf189cc32b77eb0fd1") true
  balePlans_holds (fun _ h => by cases h) balePlans_wf (fun _ h => by cases h) balePlans_row_tie rfl ⟨rfl, rfl⟩ law_main rfl
  (fun f fn hf hfn => by
   obtain rfl : f = 4 := Option.some.inj (balePlans_named.symm.trans hf) |>.symm
   obtain rfl : fn = Tryz.f4 := (Option.some.inj (Tryz.func4.symm.trans hfn)).symm
   exact ⟨law_looks, fun j t ht => by
    rw [Tryz.params4] at ht; have hm : t ∈ [48, 22, 45] := by simpa using Array.mem_of_getElem? ht
    exact (show Tryz.prog.wantsStandIn t = false by simpa using List.all_eq_true.1 balePlans_wants t hm)⟩)
  balePlans_goes
end Go.Proofs.YtpcgeihemkhkjaaGreatDoor
