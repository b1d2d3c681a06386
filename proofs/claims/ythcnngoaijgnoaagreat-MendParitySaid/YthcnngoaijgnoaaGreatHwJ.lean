/- Whether a list has a string, of the reference, walked. Conditions: strings that are names of kinds. -/
import Derived.Test.YthcnngoaijgnoaaGreatK11
import Derived.Test.YthcnngoaijgnoaaGreatK09
import Derived.Test.YthcnngoaijgnoaaGreatK04
namespace Go.Proofs.YthcnngoaijgnoaaGreat
open Go.RowKit
set_option maxHeartbeats 2000000
set_option maxRecDepth 100000

def hasW (l : List Nat) (j : Nat) : Bool := l.any fun i => ((kby i).toList == (kby j).toList)
theorem hasW_drop {l : List Nat} {j k : Nat} (hk : k < l.length) : hasW (l.drop k) j = (((kby l[k]).toList == (kby j).toList) || hasW (l.drop (k + 1)) j) := by
  unfold hasW
  rw [List.drop_eq_getElem_cons hk, List.any_cons]
theorem hasWord_any (l : List Nat) (j b c : Nat) (w : World) (hl : l.length ≤ 1000) (h : ∀ k (hk : k < l.length), w.cell? ⟨b, k, none⟩ = some (kstr l[k])) :
    Calls Tryz.prog 45 #[.slice (some ⟨b, 0, none⟩) l.length c, kstr j] w (RV w (.bool (hasW l j))) := by
  go_enter Tryz.func45, Tryz.ntmps45
  go_wp2
  go_loop [5] (fun i => ∃ k : Nat, k ≤ l.length ∧ i = .int .i64 k ∧ Hid (hasW l j = hasW (l.drop k) j)) (fun i => l.length - (intOf i).toNat)
  case atStart => exact ⟨0, Nat.zero_le _, rfl, rfl⟩
  case round =>
    obtain ⟨k, hk, rfl, H⟩ := hrel
    by_cases hlt : k < l.length
    · have hc := h k hlt
      have hd := Lib.hid (hasW_drop (j := j) hlt)
      obtain ⟨g, hg⟩ : ∃ g, ((kby l[k]).toList == (kby j).toList) = g := ⟨_, rfl⟩
      have HG := Lib.hid hg
      cases g
      · go_wp2
        go_round
        case rel => exact ⟨k + 1, by omega, by go_num, by unfold Hid; rw [H.out, hd.out, HG.out]; rfl⟩
        case measure => simp [intOf]; omega
      · go_wp2
        go_ret
        exact ⟨ret_bool (by rw [H.out, hd.out, HG.out]; rfl), bl_refl⟩
    · have hkl : k = l.length := by omega
      go_wp2
      go_ret
      refine ⟨ret_bool ?_, bl_refl⟩
      rw [H.out, hkl, List.drop_length]; rfl
end Go.Proofs.YthcnngoaijgnoaaGreat
