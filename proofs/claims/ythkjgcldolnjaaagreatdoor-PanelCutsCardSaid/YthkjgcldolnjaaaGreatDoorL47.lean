/- Plain, walked. Conditions: none. -/
import Derived.Test.YthkjgcldolnjaaaGreatDoorL25
import Derived.Test.YthkjgcldolnjaaaGreatDoorL46
import Derived.Test.YthkjgcldolnjaaaGreatDoorL17
import Derived.Test.YthkjgcldolnjaaaGreatDoorL42
namespace Go.Proofs.YthkjgcldolnjaaaGreatDoor
open Go.RowKit Go.ChangeMaps
set_option maxHeartbeats 4000000
set_option maxRecDepth 100000

attribute [local go_sem] Oper.semAt_some
/-! # Plain -/
theorem timS_memb {e : Edg} {x : Stp} : ∀ {n : Nat}, x ∈ timS e n → x.1 ∈ e.1
  | 0, h => by cases h
  | n + 1, h => by
    rcases List.mem_append.1 h with h | h
    · exact timS_memb h
    · obtain ⟨c, hc, rfl⟩ := List.mem_map.1 h
      exact hc
theorem SideOk.ltrs {l : List Edg} (h : SideOk l) : ∀ x ∈ stpL l, ltr x.1 := by
  intro x hx
  unfold stpL at hx
  obtain ⟨e, he, hx⟩ := List.mem_flatMap.1 hx
  have hm := timS_memb hx
  obtain ⟨_, _, hw, _, _⟩ := edgE_zero (h.ok e he)
  unfold wrongW at hw
  rw [List.any_eq_false] at hw
  have := hw _ hm
  unfold ltr
  simp at this
  by_cases c1 : x.1 = 78
  · exact .inl c1
  · by_cases c2 : x.1 = 66
    · exact .inr (.inl c2)
    · exact .inr (.inr (this c1 c2))
theorem lettersB_any (A : Option Addr) (n c : Nat) (w : World) : Calls Tryz.prog 95 #[.slice A n c] w fun e w' =>
    ∃ B, e = .returned (.func (.func 146) #[] #[.pointer (some ⟨B, 0, none⟩)]) ∧ Blk w' B 27 #[.slice A n c] ∧ Below w.heap.size w w' := by
  refine (letters_any A n c w).mono ?_
  rintro e w' ⟨rfl, rfl⟩
  exact ⟨_, rfl, Blk.new w _ _, bl_alloc bl_refl _⟩
end Go.Proofs.YthkjgcldolnjaaaGreatDoor

/- The reference's Plain, Mirror, Turn, walked. Conditions: the panel is valid. -/
namespace Go.Proofs.YthkjgcldolnjaaaGreatDoor
open Go.RowKit Go.ChangeMaps
set_option maxHeartbeats 4000000
set_option maxRecDepth 100000

attribute [local go_sem] Oper.semAt_some
/-! # The reference's Plain, Mirror, Turn -/
end Go.Proofs.YthkjgcldolnjaaaGreatDoor
