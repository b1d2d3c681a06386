/- The first bar of a list for which a closure holds (slices.IndexFunc), walked. Conditions: a slice that reads as a list. -/
import Derived.Test.YthcnngoaijgnoaaGreatK11
import Derived.Test.YthcnngoaijgnoaaGreatK07
namespace Go.Proofs.YthcnngoaijgnoaaGreat
open Go.RowKit Go.ChangeMaps
set_option maxHeartbeats 4000000
set_option maxRecDepth 100000

def fidx (p : Bar → Bool) : List Bar → Int → Int
  | [], _ => -1
  | b :: r, j => if p b then j else fidx p r (j + 1)
theorem fidx_drop {p : Bar → Bool} {l : List Bar} {k : Nat} (hk : k < l.length) : fidx p (l.drop k) k = if p l[k] then (k : Int) else fidx p (l.drop (k + 1)) ((k : Int) + 1) := by
  rw [List.drop_eq_getElem_cons hk]; rfl
theorem fidx_find (p : Bar → Bool) : ∀ (l : List Bar) (j : Nat), (fidx p l j = -1 ∧ l.find? p = none) ∨ ∃ i : Nat, ∃ hi : i < l.length, fidx p l j = (j : Int) + i ∧ l.find? p = some l[i]
  | [], j => .inl ⟨rfl, rfl⟩
  | b :: r, j => by
    unfold fidx
    rw [List.find?_cons]
    cases h : p b with
    | true => exact .inr ⟨0, by simp, by simp, rfl⟩
    | false =>
      rcases fidx_find p r (j + 1) with ⟨h1, h2⟩ | ⟨i, hi, h1, h2⟩
      · exact .inl ⟨by simpa using h1, h2⟩
      · exact .inr ⟨i + 1, by simp; omega, by simp; simp at h1; omega, by simpa using h2⟩
theorem findb_any {v : Value} (cap : Value) (p : Bar → Bool) (l : List Bar) (w : World) (h : SlB w v l)
    (hf : ∀ W b, b ∈ l → Below w.heap.size w W → Calls Tryz.prog 160 #[.agg #[.int .i64 b.1, .int .i64 b.2.1, .int .i64 b.2.2], cap] W (RV W (.bool (p b)))) :
    Calls Tryz.prog 159 #[v, .func (.func 160) #[] #[cap]] w (RV w (.int .i64 (fidx p l 0))) := by
  obtain ⟨A, c, rfl, hlc, hcm, h⟩ := h
  have hl : l.length ≤ maxLen := Nat.le_trans hlc hcm
  unfold maxLen at hl
  go_enter Tryz.func159, Tryz.ntmps159
  go_wp2
  go_loopw [8] (fun i wr => ∃ k : Nat, k ≤ l.length ∧ i = .int .i64 k ∧ Hid (fidx p l 0 = fidx p (l.drop k) k) ∧ Below w.heap.size w wr) (fun i _ => l.length - (intOf i).toNat)
  case atStart => exact ⟨0, Nat.zero_le _, rfl, rfl, bl_refl⟩
  case round =>
    obtain ⟨k, hk, rfl, HK, hbw⟩ := hrel
    by_cases hlt : k < l.length
    · have hr := h.below hbw
      obtain ⟨b, off, rfl, hb, e0, e1, e2⟩ := hr.bar hlt
      have HT := Lib.hid (fidx_drop (p := p) hlt)
      have hF := fun W hW => hf W l[k] (List.getElem_mem hlt) hW
      obtain ⟨⟨x, y, s⟩, hx⟩ : ∃ z, l[k] = z := ⟨_, rfl⟩
      obtain ⟨q, hq⟩ : ∃ q, p (x, y, s) = q := ⟨_, rfl⟩
      simp only [hx] at HT hF e0 e1 e2
      simp only [hq] at HT hF
      clear hx hq
      cases q
      · go_wp2_with (go_at_call 160; refine (hF _ (by (repeat (first | exact bl_refl | assumption | (apply bl_then; assumption) | refine bl_alloc ?_ _ | refine bl_drew ?_ | refine bl_drewN ?_ _)))).mono ?_; rintro e w2 ⟨rfl, hb2⟩)
        go_roundw
        case rel => exact ⟨k + 1, by omega, by go_num, by unfold Hid; rw [HK.out, HT.out]; simp, by (repeat (first | exact bl_refl | assumption | (apply bl_then; assumption) | refine bl_alloc ?_ _ | refine bl_drew ?_ | refine bl_drewN ?_ _))⟩
        case measure => simp [intOf]; omega
      · go_wp2_with (go_at_call 160; refine (hF _ (by (repeat (first | exact bl_refl | assumption | (apply bl_then; assumption) | refine bl_alloc ?_ _ | refine bl_drew ?_ | refine bl_drewN ?_ _)))).mono ?_; rintro e w2 ⟨rfl, hb2⟩)
        go_ret
        exact ⟨ret_int (by rw [HK.out, HT.out]; rfl), by (repeat (first | exact bl_refl | assumption | (apply bl_then; assumption) | refine bl_alloc ?_ _ | refine bl_drew ?_ | refine bl_drewN ?_ _))⟩
    · have hkl : k = l.length := by omega
      have HE : Hid (fidx p l 0 = -1) := by unfold Hid; rw [HK.out, hkl, List.drop_length]; rfl
      go_wp2
      go_ret
      exact ⟨ret_int (by rw [HE.out]), by (repeat (first | exact bl_refl | assumption | (apply bl_then; assumption) | refine bl_alloc ?_ _ | refine bl_drew ?_ | refine bl_drewN ?_ _))⟩
end Go.Proofs.YthcnngoaijgnoaaGreat
