/- BaleBests: the law's statement. Conditions: none. -/
import Derived.Test.YtpcgeihemkhkjaaGreatDoorBaleBestsAJ
namespace Go.Proofs.YtpcgeihemkhkjaaGreatDoor
open Go.ChangeShapes Go.WideShapes Go.ChangeAt Go.RowKit Go.Deep Go.Joins
set_option maxRecDepth 100000
set_option maxHeartbeats 4000000
theorem baleBests_holds : Rows.BaleBestsSaid :=
 OpenClaim.holds_of_wide 6 Tryz.f6 rfl rfl rfl rfl rfl rfl rfl ⟨rfl, rfl, rfl, rfl, rfl⟩ rfl rfl rfl rfl rfl (by as_aux_lemma => kernel_rfl) Tryz.func6 (by as_aux_lemma => kernel_rfl)
  (of_decide_eq_true (by as_aux_lemma => kernel_rfl)) (by unfold Func.isWrapper; rw [if_neg (of_decide_eq_false (by as_aux_lemma => kernel_rfl))]; exact ⟨rfl, rfl⟩)
  (fun os started H enc _ => baleBests_lifted os started H enc)
end Go.Proofs.YtpcgeihemkhkjaaGreatDoor
