/- PanelPieces: the card. Conditions: none. -/
import Derived.Test.YtkkefahobjlagaaGreatDoorPanelPiecesBJ
namespace Go.Proofs.YtkkefahobjlagaaGreatDoor
open Go.ChangeShapes Go.WideShapes Go.ChangeAt Go.RowKit Go.Deep Go.Joins
set_option maxRecDepth 100000
set_option maxHeartbeats 4000000
theorem panelPieces_wf : Rows.panelPiecesRow.wfByText (OpenSpec.ofChange Rows.panelPiecesSpec) = true := by kernel_rfl
theorem panelPieces_goes : false = Rows.panelPiecesRow.goesBy Tryz.pinned.checked.prog := by kernel_rfl
theorem panelPieces_named : Tryz.prog.funcNamed "codend/codendlaw03.PanelPieces" = some 3 := by kernel_rfl
theorem panelPieces_wants : ([24, 5].all fun u => !Tryz.prog.wantsStandIn u) = true := by kernel_rfl
theorem panelPieces_card : Rows.PanelPiecesCardSaid :=
 Claim7.holds_tied_plain_at .later [] [.data, .data, .data, .data, .sentinel, .sentinel, .pinned] true (true, "34484aba8be14fb23b055c34843f68306072b73212b0d88356f17663d5c05954") true
  panelPieces_holds (fun _ h => by cases h) panelPieces_wf (fun _ h => by cases h) panelPieces_row_tie rfl ⟨rfl, rfl⟩ law_main rfl
  (fun f fn hf hfn => by
   obtain rfl : f = 3 := Option.some.inj (panelPieces_named.symm.trans hf) |>.symm
   obtain rfl : fn = Tryz.f3 := (Option.some.inj (Tryz.func3.symm.trans hfn)).symm
   exact ⟨law_looks, fun j t ht => by
    rw [Tryz.params3] at ht
    have hm : t ∈ [24, 5] := by simpa using Array.mem_of_getElem? ht
    exact (show Tryz.prog.wantsStandIn t = false by simpa using List.all_eq_true.1 panelPieces_wants t hm)⟩)
  panelPieces_goes
end Go.Proofs.YtkkefahobjlagaaGreatDoor
