/- NettingTurns: the card. Conditions: none. -/
import Derived.Test.YtkmjcoofkgpanaaGreatDoorB21
import Derived.Test.YtkmjcoofkgpanaaGreatDoorNettingTurnsBJ
namespace Go.Proofs.YtkmjcoofkgpanaaGreatDoor
open Go.ChangeShapes Go.WideShapes Go.ChangeAt Go.RowKit Go.Deep Go.Joins
set_option maxRecDepth 100000
set_option maxHeartbeats 4000000
theorem nettingTurns_wf : Rows.nettingTurnsRow.wfByText (OpenSpec.ofChange Rows.nettingTurnsSpec) = true := by kernel_rfl
theorem nettingTurns_goes : false = Rows.nettingTurnsRow.goesBy Tryz.pinned.checked.prog := by kernel_rfl
theorem nettingTurns_named : Tryz.prog.funcNamed "codend/codendlaw01.NettingTurns" = some 11 := by kernel_rfl
theorem nettingTurns_wants : ([26, 23, 90].all fun u => !Tryz.prog.wantsStandIn u) = true := by kernel_rfl
theorem nettingTurns_card : Rows.NettingTurnsCardSaid :=
  Claim7.holds_tied_plain_at .later [] [.data, .data, .data, .data, .sentinel, .sentinel, .pinned] true (true, "990ad92517b89351c2f246a75ca85d757c4da301d35f2805c3b6a46fdce1c356") true
    nettingTurns_holds (fun _ h => by cases h) nettingTurns_wf (fun _ h => by cases h) nettingTurns_row_tie rfl ⟨rfl, rfl⟩ law_main rfl
    (fun f fn hf hfn => by
      obtain rfl : f = 11 := Option.some.inj (nettingTurns_named.symm.trans hf) |>.symm
      obtain rfl : fn = Tryz.f11 := (Option.some.inj (Tryz.func11.symm.trans hfn)).symm
      exact ⟨law_looks, fun j t ht => by
        rw [Tryz.params11] at ht
        have hm : t ∈ [26, 23, 90] := by simpa using Array.mem_of_getElem? ht
        exact (show Tryz.prog.wantsStandIn t = false by simpa using List.all_eq_true.1 nettingTurns_wants t hm)⟩)
    nettingTurns_goes
end Go.Proofs.YtkmjcoofkgpanaaGreatDoor
