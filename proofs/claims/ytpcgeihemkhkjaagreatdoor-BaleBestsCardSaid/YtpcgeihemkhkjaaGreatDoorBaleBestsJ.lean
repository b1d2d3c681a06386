/- BaleBests: the card. Conditions: none. -/
import Derived.Test.YtpcgeihemkhkjaaGreatDoorBaleBestsBJ
namespace Go.Proofs.YtpcgeihemkhkjaaGreatDoor
open Go.ChangeShapes Go.WideShapes Go.ChangeAt Go.RowKit Go.Deep Go.Joins
set_option maxRecDepth 100000
set_option maxHeartbeats 4000000
theorem baleBests_wf : Rows.baleBestsRow.wfByText (OpenSpec.ofChange Rows.baleBestsSpec) = true := by kernel_rfl
theorem baleBests_goes : false = Rows.baleBestsRow.goesBy Tryz.pinned.checked.prog := by kernel_rfl
theorem baleBests_named : Tryz.prog.funcNamed "codend/codendlaw05.BaleBests" = some 6 := by kernel_rfl
theorem baleBests_wants : ([48, 22].all fun u => !Tryz.prog.wantsStandIn u) = true := by kernel_rfl
theorem baleBests_card : Rows.BaleBestsCardSaid :=
 Claim7.holds_tied_plain_at .later [] [.data, .data, .data, .data, .sentinel, .sentinel, .widerDeep, .pinned] true (true, "3da20f59901f6bc20089874a21517bae1878a1d2eefccfcf189cc32b77eb0fd1") true
  baleBests_holds (fun _ h => by cases h) baleBests_wf (fun _ h => by cases h) baleBests_row_tie rfl ⟨rfl, rfl⟩ law_main rfl
  (fun f fn hf hfn => by
   obtain rfl : f = 6 := Option.some.inj (baleBests_named.symm.trans hf) |>.symm
   obtain rfl : fn = Tryz.f6 := (Option.some.inj (Tryz.func6.symm.trans hfn)).symm
   exact ⟨law_looks, fun j t ht => by
    rw [Tryz.params6] at ht; have hm : t ∈ [48, 22] := by simpa using Array.mem_of_getElem? ht
    exact (show Tryz.prog.wantsStandIn t = false by simpa using List.all_eq_true.1 baleBests_wants t hm)⟩)
  baleBests_goes
end Go.Proofs.YtpcgeihemkhkjaaGreatDoor
