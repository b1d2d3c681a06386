/- BaleShortest: the card. Conditions: none. -/
import Derived.Test.YtpcgeihemkhkjaaGreatDoorBaleShortestBJ
namespace Go.Proofs.YtpcgeihemkhkjaaGreatDoor
open Go.ChangeShapes Go.WideShapes Go.ChangeAt Go.RowKit Go.Deep Go.Joins
set_option maxRecDepth 100000
set_option maxHeartbeats 4000000
theorem baleShortest_wf : Rows.baleShortestRow.wfByText (OpenSpec.ofChange Rows.baleShortestSpec) = true := by kernel_rfl
theorem baleShortest_goes : false = Rows.baleShortestRow.goesBy Tryz.pinned.checked.prog := by kernel_rfl
theorem baleShortest_named : Tryz.prog.funcNamed "codend/codendlaw05.BaleShortest" = some 3 := by kernel_rfl
theorem baleShortest_wants : ([22, 23, 23].all fun u => !Tryz.prog.wantsStandIn u) = true := by kernel_rfl
theorem baleShortest_card : Rows.BaleShortestCardSaid :=
 Claim7.holds_tied_plain_at .later [] [.data, .data, .data, .data, .sentinel, .sentinel, .widerDeep, .pinned] true (true, "3da20f59901f6bc20089874a21517bae1878a1d2eefccfcf189cc32b77eb0fd1") true
  baleShortest_holds (fun _ h => by cases h) baleShortest_wf (fun _ h => by cases h) baleShortest_row_tie rfl ⟨rfl, rfl⟩ law_main rfl
  (fun f fn hf hfn => by
   obtain rfl : f = 3 := Option.some.inj (baleShortest_named.symm.trans hf) |>.symm
   obtain rfl : fn = Tryz.f3 := (Option.some.inj (Tryz.func3.symm.trans hfn)).symm
   exact ⟨law_looks, fun j t ht => by
    rw [Tryz.params3] at ht
    have hm : t ∈ [22, 23, 23] := by simpa using Array.mem_of_getElem? ht
    exact (show Tryz.prog.wantsStandIn t = false by simpa using List.all_eq_true.1 baleShortest_wants t hm)⟩)
  baleShortest_goes
end Go.Proofs.YtpcgeihemkhkjaaGreatDoor
