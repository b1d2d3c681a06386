/- The legs of a hole, of the reference, walked. Conditions: bars within bounds. -/
import Derived.Test.YthcnngoaijgnoaaGreatRkdJ
import Derived.Test.YthcnngoaijgnoaaGreatK11
namespace Go.Proofs.YthcnngoaijgnoaaGreat
open Go.RowKit Go.ChangeMaps
set_option maxHeartbeats 8000000
set_option maxRecDepth 100000

theorem rkinds_any {v u : Value} (D : List Bar) (w : World) (hD : SlB w u D) (hk : ∀ b ∈ D, BarOk b) (hlen : D.length ≤ 100000) :
    Calls Tryz.prog 54 #[.agg #[v, u]] w (fun e w' => ∃ v', e = .returned v' ∧ OwM w.heap.size w' v' ((holeK D).map (legOf D)) ∧ Below w.heap.size w w') := by
  have hB := Blk.new w 24 #[v, u]
  have hD0 := hD.alloc (.cells #[v, u] 24)
  have HN := Lib.hid (hole_near hk)
  have HM := Lib.hid (fun k => holeK_mem (D := D) (fun b hb => (hk b hb).2.2) k)
  have hll := hole_len (D := D)
  have hho := fun (v : Value) X (hX : SlB X u D) => rhole_any (v := v) D X hX hk hlen
  obtain ⟨l, hl⟩ : ∃ l, holeK D = l := ⟨_, rfl⟩
  rw [hl] at hho hll HN HM ⊢
  clear hl hk
  go_enter Tryz.func54, Tryz.ntmps54
  go_wp2_with (go_at_call 110; refine (hho _ _ hD0).mono ?_; rintro e w1 ⟨v1, rfl, hown1, hb1⟩)
  obtain ⟨A1, c1, rfl⟩ := hown1.shape
  have hB1 := hB.below hb1
  have hD1 := hD0.below hb1
  have hbw1 : Below w.heap.size w w1 := by (repeat (first | exact bl_refl | assumption | (apply bl_then; assumption) | refine bl_alloc ?_ _ | refine bl_drew ?_ | refine bl_drewN ?_ _))
  go_loopw [4, 5] (fun o i wr => ∃ k : Nat, k ≤ l.length ∧ i = .int .i64 k ∧ OwM w1.heap.size wr o ((l.take k).map (legOf D)) ∧ Below w1.heap.size w1 wr) (fun _ i _ => l.length - (intOf i).toNat)
  case atStart => exact ⟨0, Nat.zero_le _, rfl, Own.nil_, Below.refl _ _⟩
  case round =>
    obtain ⟨k, hkl, rfl, hown, hbw⟩ := hrel
    have hBr := hB1.below hbw
    have fB := hBr.facts
    have hDr := hD1.below hbw
    have hlr := hown1.below hbw
    by_cases hlt : k < l.length
    · obtain ⟨A1', c1', he, hlc, hcm, hr⟩ := hlr.rd kc_len
      obtain ⟨rfl, rfl⟩ : A1 = A1' ∧ c1 = c1' := by simpa using he
      obtain ⟨b, off, rfl, hb, e0, e1⟩ := hr.knot hlt
      have HT : Hid ((l.take (k + 1)).map (legOf D) = (l.take k).map (legOf D) ++ [legOf D l[k]]) := by unfold Hid; rw [List.take_succ_eq_append_getElem hlt, List.map_append]; rfl
      have hwl : ((l.take k).map (legOf D)).length ≤ 1000000 := by simp; omega
      have hnk := HN.out _ (List.getElem_mem hlt)
      have hne := (HM.out l[k]).1 (List.getElem_mem hlt)
      obtain ⟨⟨x, y⟩, hx⟩ : ∃ z, l[k] = z := ⟨_, rfl⟩
      have HX := Lib.hid hx
      rw [hx] at e0 e1 hnk hne HT
      unfold nearK at hnk
      simp only at e0 e1 hnk
      have hms := fun (v : Value) X (hX : SlB X u D) => missing_any (v := v) D x y X hX (by omega) (by omega)
      have hkd := fun (v : Value) X (hX : SlB X u D) => rkind_any (v := v) D x y X hX (by omega) (by omega) hne
      have HLG : Hid (legOf D (x, y) = ((x, y), (((missN D (x, y) : Nat) : Int)).toNat, kix (legsAt D (x, y)))) := rfl
      obtain ⟨mm, hmm⟩ : ∃ mm : Int, ((missN D (x, y) : Nat) : Int) = mm := ⟨_, rfl⟩
      have hm0 : 0 ≤ mm := by omega
      obtain ⟨ki, hki⟩ : ∃ ki, kix (legsAt D (x, y)) = ki := ⟨_, rfl⟩
      rw [hmm] at hms HLG
      rw [hki] at hkd HLG
      clear he hx hne hki hmm
      go_wp2
      refine wp_region_ords [0, 1, 2, 3, 4, 5, 6, 7, 8, 9, 11, 12, 13, 14, 15] [(10, false), (16, false), (17, false), (18, false)] [19, 20] (by kernel_rfl) (by kernel_rfl) (fun d _ _ _ _ h => by cases d <;> exact h) ?_
      simp only [List.map_cons, List.map_nil, List.getD_cons_zero, List.getD_cons_succ]
      repeat (go_big_quiet_step (fail))
      refine wpQuiet_nil ?_
      refine wpMid_run rfl (fun K hK => ?_)
      go_simp
      refine (hms _ _ (hDr.below (by (repeat (first | exact bl_refl | assumption | (apply bl_then; assumption) | refine bl_alloc ?_ _ | refine bl_drew ?_ | refine bl_drewN ?_ _))))).mono ?_
      rintro e w4 ⟨rfl, hb4⟩
      refine hK _ _ (by (repeat (first | exact bl_refl | assumption | (apply bl_then; assumption) | refine bl_alloc ?_ _ | refine bl_drew ?_ | refine bl_drewN ?_ _))) ?_
      clear hK K
      refine wpMid_run rfl (fun K hK => ?_)
      go_simp
      refine (hkd _ _ (hDr.below (by (repeat (first | exact bl_refl | assumption | (apply bl_then; assumption) | refine bl_alloc ?_ _ | refine bl_drew ?_ | refine bl_drewN ?_ _))))).mono ?_
      rintro e w5 ⟨rfl, hb5⟩
      refine hK _ _ (by (repeat (first | exact bl_refl | assumption | (apply bl_then; assumption) | refine bl_alloc ?_ _ | refine bl_drew ?_ | refine bl_drewN ?_ _))) ?_
      clear hK K
      have hown5 := hown.below (show Below wr.heap.size wr w5 by (repeat (first | exact bl_refl | assumption | (apply bl_then; assumption) | refine bl_alloc ?_ _ | refine bl_drew ?_ | refine bl_drewN ?_ _)))
      refine wpMid_run rfl (fun K hK => ?_)
      go_simp
      refine hK _ _ (by (repeat (first | exact bl_refl | assumption | (apply bl_then; assumption) | refine bl_alloc ?_ _ | refine bl_drew ?_ | refine bl_drewN ?_ _))) ?_
      clear hK K
      refine wpMid_run rfl (fun K hK => ?_)
      go_simp
      refine hK _ _ (by (repeat (first | exact bl_refl | assumption | (apply bl_then; assumption) | refine bl_alloc ?_ _ | refine bl_drew ?_ | refine bl_drewN ?_ _))) ?_
      clear hK K
      refine wpMid_nil ?_
      have hbw5 : Below w1.heap.size w1 w5 := by (repeat (first | exact bl_refl | assumption | (apply bl_then; assumption) | refine bl_alloc ?_ _ | refine bl_drew ?_ | refine bl_drewN ?_ _))
      refine wpList_appM hown5 rfl _ _ rfl rfl rfl (z := legOf D (x, y)) HLG.out hm0 hwl hbw5.size ?_
      intro v6 w6 hown6 hg6
      have hbw6 := own_step hown5 hg6 (bl_alloc hbw5 _)
      go_wp2
      go_roundw
      case rel => exact ⟨k + 1, by omega, by go_num, by rw [HT.out]; exact hown6, hbw6⟩
      case measure => simp [intOf]; omega
    · have HE : Hid (l.map (legOf D) = (l.take k).map (legOf D)) := by unfold Hid; rw [List.take_of_length_le (by omega)]
      obtain ⟨A2, c2, rfl⟩ := hown.shape
      go_wp2
      go_ret
      exact ⟨_, rfl, by rw [HE.out]; exact hown.base_mono hbw1.size, by (repeat (first | exact bl_refl | assumption | (apply bl_then; assumption) | refine bl_alloc ?_ _ | refine bl_drew ?_ | refine bl_drewN ?_ _))⟩
end Go.Proofs.YthcnngoaijgnoaaGreat
