/- PanelTexts: the card. Conditions: none. -/
import Derived.Test.YtkkefahobjlagaaGreatDoorPanelTextsBJ
namespace Go.Proofs.YtkkefahobjlagaaGreatDoor
open Go.ChangeShapes Go.WideShapes Go.ChangeAt Go.RowKit Go.Deep Go.Joins
set_option maxRecDepth 100000
set_option maxHeartbeats 4000000
theorem panelTexts_wf : Rows.panelTextsRow.wfByText (OpenSpec.ofChange Rows.panelTextsSpec) = true := by kernel_rfl
theorem panelTexts_goes : false = Rows.panelTextsRow.goesBy Tryz.pinned.checked.prog := by kernel_rfl
theorem panelTexts_named : Tryz.prog.funcNamed "codend/codendlaw03.PanelTexts" = some 6 := by kernel_rfl
theorem panelTexts_wants : ([78, 9].all fun u => !Tryz.prog.wantsStandIn u) = true := by kernel_rfl
theorem panelTexts_card : Rows.PanelTextsCardSaid :=
 Claim7.holds_tied_plain_at .later [] [.data, .data, .data, .data, .sentinel, .sentinel, .pinned] true (true, "34484aba8be14fb23b055c34843f68306072b73212b0d88356f17663d5c05954") true
  panelTexts_holds (fun _ h => by cases h) panelTexts_wf (fun _ h => by cases h) panelTexts_row_tie rfl ⟨rfl, rfl⟩ law_main rfl
  (fun f fn hf hfn => by
   obtain rfl : f = 6 := Option.some.inj (panelTexts_named.symm.trans hf) |>.symm
   obtain rfl : fn = Tryz.f6 := (Option.some.inj (Tryz.func6.symm.trans hfn)).symm
   exact ⟨law_looks, fun j t ht => by
    rw [Tryz.params6] at ht
    have hm : t ∈ [78, 9] := by simpa using Array.mem_of_getElem? ht
    exact (show Tryz.prog.wantsStandIn t = false by simpa using List.all_eq_true.1 panelTexts_wants t hm)⟩)
  panelTexts_goes
end Go.Proofs.YtkkefahobjlagaaGreatDoor
