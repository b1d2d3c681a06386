/- The bars of a sheet in the reference's order, plain. Conditions: none. -/
import Derived.Test.YtkmjcoofkgpanaaGreatDoorB21
import Derived.Test.YtkmjcoofkgpanaaGreatDoorB14
namespace Go.Proofs.YtkmjcoofkgpanaaGreatDoor
open Go.RowKit Go.ChangeMaps
set_option maxHeartbeats 4000000
set_option maxRecDepth 100000

/-! ## the bars of a sheet, as the reference visits them -/
def evB (x y : Int) : Bool := decide ((x + y) % 2 = 0)
def rsT (x0 : Int) (c : Nat) (x y : Int) : Nat → List Bar
  | 0 => []
  | t + 1 => rsT x0 c x y t ++ if evB x y then sdB x0 c (x, y, 2 * (t : Int) - 1) else []
def rsI (x0 : Int) (c : Nat) (y : Int) : Nat → List Bar
  | 0 => []
  | m + 1 => rsI x0 c y m ++ rsT x0 c (x0 + (m : Int)) y 2
def rsN (x0 y0 : Int) (c : Nat) : Nat → List Bar
  | 0 => []
  | n + 1 => rsN x0 y0 c n ++ rsI x0 c (y0 + (n : Int)) (2 * c + 1)
theorem rsT_len (x0 : Int) (c : Nat) (x y : Int) : ∀ t, (rsT x0 c x y t).length ≤ t
  | 0 => Nat.le_refl _
  | t + 1 => by
    have := rsT_len x0 c x y t
    have := sdB_len x0 c (x, y, 2 * (t : Int) - 1)
    rw [rsT, List.length_append]
    split
    · omega
    · simp; omega
theorem rsI_len (x0 : Int) (c : Nat) (y : Int) : ∀ m, (rsI x0 c y m).length ≤ 2 * m
  | 0 => Nat.le_refl _
  | m + 1 => by
    have := rsI_len x0 c y m
    have := rsT_len x0 c (x0 + (m : Int)) y 2
    rw [rsI, List.length_append]; omega
theorem rsN_len (x0 y0 : Int) (c : Nat) : ∀ n, (rsN x0 y0 c n).length ≤ n * (2 * (2 * c + 1))
  | 0 => by simp [rsN]
  | n + 1 => by
    have := rsN_len x0 y0 c n
    have := rsI_len x0 c (y0 + (n : Int)) (2 * c + 1)
    rw [rsN, List.length_append, show (n + 1) * (2 * (2 * c + 1)) = n * (2 * (2 * c + 1)) + 2 * (2 * c + 1) from Nat.succ_mul _ _]
    omega
theorem evB_iff (x y : Int) : evB x y = true ↔ (x + y) % 2 = 0 := decide_eq_true_iff
theorem rsT_yes {x0 : Int} {c : Nat} {x y : Int} (h : (x + y) % 2 = 0) : ∀ t, rsT x0 c x y t = shT x0 c x y t
  | 0 => rfl
  | t + 1 => by rw [rsT, shT, rsT_yes h t, if_pos ((evB_iff x y).2 h)]
theorem rsT_no {x0 : Int} {c : Nat} {x y : Int} (h : (x + y) % 2 ≠ 0) : ∀ t, rsT x0 c x y t = []
  | 0 => rfl
  | t + 1 => by rw [rsT, rsT_no h t, if_neg (fun e => h ((evB_iff x y).1 e))]; rfl
theorem rsI_two {x0 : Int} (c : Nat) {y : Int} {n : Nat} (h : (x0 + y + (n % 2 : Nat)) % 2 = 0) : ∀ i : Nat, rsI x0 c y (2 * i + n % 2) = shI x0 c y n i
  | 0 => by
    rcases Nat.mod_two_eq_zero_or_one n with h1 | h1
    · rw [h1]; rfl
    · rw [h1] at h ⊢
      show rsI x0 c y 1 = []
      rw [rsI, rsT_no (by simp; omega)]; rfl
  | i + 1 => by
    have e : 2 * (i + 1) + n % 2 = (2 * i + n % 2) + 1 + 1 := by omega
    have hm : n % 2 < 2 := Nat.mod_lt _ (by decide)
    rw [e, rsI, rsI, rsI_two c h i, shI, rsT_yes (by omega), rsT_no (x := x0 + ((2 * i + n % 2 + 1 : Nat) : Int)) (by omega), List.append_nil]
    congr 2
    omega
theorem rsI_row {x0 : Int} (c : Nat) {y : Int} {n : Nat} (h : (x0 + y + (n % 2 : Nat)) % 2 = 0) : rsI x0 c y (2 * c + 1) = shI x0 c y n (c + 1 - n % 2) := by
  rcases Nat.mod_two_eq_zero_or_one n with h1 | h1
  · have h2 := rsI_two c h c
    rw [h1] at h2 h ⊢
    rw [rsI, show 2 * c = 2 * c + 0 from rfl, h2, show c + 1 - 0 = c + 1 from rfl, shI, h1, rsT_yes (by simp; omega)]
    congr 2
    simp
  · have h2 := rsI_two c h c
    rw [h1] at h2 ⊢
    exact h2
theorem rsN_eq {x0 y0 : Int} (c : Nat) (h : (x0 + y0) % 2 = 0) : ∀ n : Nat, rsN x0 y0 c n = shN x0 y0 c n
  | 0 => rfl
  | n + 1 => by
    rw [rsN, shN, rsN_eq c h n, rsI_row c (n := n)]
    omega
end Go.Proofs.YtkmjcoofkgpanaaGreatDoor
