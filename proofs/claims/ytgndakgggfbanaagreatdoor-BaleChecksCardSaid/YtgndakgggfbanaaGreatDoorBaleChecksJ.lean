/- BaleChecks: the card. Conditions: none. -/
import Derived.Test.YtgndakgggfbanaaGreatDoorBaleChecksBJ
namespace Go.Proofs.YtgndakgggfbanaaGreatDoor
open Go.ChangeShapes Go.WideShapes Go.ChangeAt Go.RowKit Go.Deep Go.Joins
set_option maxRecDepth 100000
set_option maxHeartbeats 4000000
theorem baleChecks_wf : Rows.baleChecksRow.wfByText (OpenSpec.ofChange Rows.baleChecksSpec) = true := by kernel_rfl
theorem baleChecks_goes : false = Rows.baleChecksRow.goesBy Tryz.pinned.checked.prog := by kernel_rfl
theorem baleChecks_named : Tryz.prog.funcNamed "codend/codendlaw05.BaleChecks" = some 3 := by kernel_rfl
theorem baleChecks_wants : ([23, 24, 25].all fun u => !Tryz.prog.wantsStandIn u) = true := by kernel_rfl
theorem baleChecks_card : Rows.BaleChecksCardSaid :=
 Claim7.holds_tied_plain_at .later [] [.data, .data, .data, .data, .sentinel, .sentinel, .widerDeep, .pinned] true (true, "ca955d50b3fa918918618fde020628a82948f20dfbef8cd749ce1545e204e2b7") true
  baleChecks_holds (fun _ h => by cases h) baleChecks_wf (fun _ h => by cases h) baleChecks_row_tie rfl ⟨rfl, rfl⟩ law_main rfl
  (fun f fn hf hfn => by
   obtain rfl : f = 3 := Option.some.inj (baleChecks_named.symm.trans hf) |>.symm
   obtain rfl : fn = Tryz.f3 := (Option.some.inj (Tryz.func3.symm.trans hfn)).symm
   exact ⟨law_looks, fun j t ht => by
    rw [Tryz.params3] at ht
    have hm : t ∈ [23, 24, 25] := by simpa using Array.mem_of_getElem? ht
    exact (show Tryz.prog.wantsStandIn t = false by simpa using List.all_eq_true.1 baleChecks_wants t hm)⟩)
  baleChecks_goes
end Go.Proofs.YtgndakgggfbanaaGreatDoor
