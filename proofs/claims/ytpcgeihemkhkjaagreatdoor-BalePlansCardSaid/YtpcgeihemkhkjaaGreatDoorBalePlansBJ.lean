/- BalePlans: the law's statement. Conditions: none. -/
import Derived.Test.YtpcgeihemkhkjaaGreatDoorBalePlansAJ
namespace Go.Proofs.YtpcgeihemkhkjaaGreatDoor
open Go.ChangeShapes Go.WideShapes Go.ChangeAt Go.RowKit Go.Deep Go.Joins
set_option maxRecDepth 100000
set_option maxHeartbeats 4000000
theorem balePlans_holds : Rows.BalePlansSaid :=
 OpenClaim.holds_of_wide 4 Tryz.f4 rfl rfl rfl rfl rfl rfl rfl ⟨rfl, rfl, rfl, rfl, rfl⟩ rfl rfl rfl rfl rfl (by as_aux_lemma => kernel_rfl) Tryz.func4 (by as_aux_lemma => kernel_rfl)
  (of_decide_eq_true (by as_aux_lemma => kernel_rfl)) (by unfold Func.isWrapper; rw [if_neg (of_decide_eq_false (by as_aux_lemma => kernel_rfl))]; exact ⟨rfl, rfl⟩)
  (fun os started H enc _ => balePlans_lifted os started H enc)
end Go.Proofs.YtpcgeihemkhkjaaGreatDoor
