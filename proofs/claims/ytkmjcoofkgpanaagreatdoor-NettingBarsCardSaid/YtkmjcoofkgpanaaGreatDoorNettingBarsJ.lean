/- NettingBars: the card. Conditions: none. -/
import Derived.Test.YtkmjcoofkgpanaaGreatDoorB21
import Derived.Test.YtkmjcoofkgpanaaGreatDoorNettingBarsBJ
namespace Go.Proofs.YtkmjcoofkgpanaaGreatDoor
open Go.ChangeShapes Go.WideShapes Go.ChangeAt Go.RowKit Go.Deep Go.Joins
set_option maxRecDepth 100000
set_option maxHeartbeats 4000000
theorem nettingBars_wf : Rows.nettingBarsRow.wfByText (OpenSpec.ofChange Rows.nettingBarsSpec) = true := by kernel_rfl
theorem nettingBars_goes : false = Rows.nettingBarsRow.goesBy Tryz.pinned.checked.prog := by kernel_rfl
theorem nettingBars_named : Tryz.prog.funcNamed "codend/codendlaw01.NettingBars" = some 12 := by kernel_rfl
theorem nettingBars_wants : ([26, 60, 23].all fun u => !Tryz.prog.wantsStandIn u) = true := by kernel_rfl
theorem nettingBars_card : Rows.NettingBarsCardSaid :=
  Claim7.holds_tied_plain_at .later [] [.data, .data, .data, .data, .sentinel, .sentinel, .pinned] true (true, "990ad92517b89351c2f246a75ca85d757c4da301d35f2805c3b6a46fdce1c356") true
    nettingBars_holds (fun _ h => by cases h) nettingBars_wf (fun _ h => by cases h) nettingBars_row_tie rfl ⟨rfl, rfl⟩ law_main rfl
    (fun f fn hf hfn => by
      obtain rfl : f = 12 := Option.some.inj (nettingBars_named.symm.trans hf) |>.symm
      obtain rfl : fn = Tryz.f12 := (Option.some.inj (Tryz.func12.symm.trans hfn)).symm
      exact ⟨law_looks, fun j t ht => by
        rw [Tryz.params12] at ht
        have hm : t ∈ [26, 60, 23] := by simpa using Array.mem_of_getElem? ht
        exact (show Tryz.prog.wantsStandIn t = false by simpa using List.all_eq_true.1 nettingBars_wants t hm)⟩)
    nettingBars_goes
end Go.Proofs.YtkmjcoofkgpanaaGreatDoor
