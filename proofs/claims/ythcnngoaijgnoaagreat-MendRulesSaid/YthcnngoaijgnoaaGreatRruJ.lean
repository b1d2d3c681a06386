/- The trimming by rule, of the reference, walked. Conditions: bars within bounds. -/
import Derived.Test.YthcnngoaijgnoaaGreatK11
import Derived.Test.YthcnngoaijgnoaaGreatRchJ
namespace Go.Proofs.YthcnngoaijgnoaaGreat
open Go.RowKit Go.ChangeMaps
set_option maxHeartbeats 8000000
set_option maxRecDepth 100000

theorem rrule_any {v u : Value} (N D : List Bar) (w : World) (hN : SlB w v N) (hD : SlB w u D) (hkN : ∀ b ∈ N, BarOk b) (hkD : ∀ b ∈ D, BarOk b) (hlN : N.length ≤ 500) (hlD : D.length ≤ 500) :
    Calls Tryz.prog 71 #[.agg #[v, u]] w (ROB w (ruleO N D)) := by
  have hT := Blk.new w 24 #[v, u]
  have hN0 := hN.alloc (.cells #[v, u] 24)
  have hD0 := hD.alloc (.cells #[v, u] 24)
  have hv1 : v.oneCell' = true := by obtain ⟨A, c, rfl, _⟩ := hN; rfl
  have HKN := Lib.hid hkN
  clear hkN
  go_enter Tryz.func71, Tryz.ntmps71
  go_wp2_with fail
  go_loopw [4, 5] (fun o i wr => ∃ (k : Nat) (ui : Value) (Di out : List Bar), k ≤ 33 ∧ i = .int .i64 k ∧ Hid (ruleO N D = ruleF N (33 - k) Di out) ∧ Blk wr w.heap.size 24 #[v, ui] ∧ SlB wr ui Di ∧ OwB (w.heap.size + 1) wr o out ∧ (∀ b ∈ Di, BarOk b) ∧ Di.length ≤ 500 + k ∧ out.length ≤ k ∧ Below w.heap.size w wr) (fun _ i _ => 33 - (intOf i).toNat)
  case atStart => exact ⟨0, u, D, [], by omega, rfl, rfl, hT, hD0, Own.nil_, hkD, by omega, by simp, by (repeat (first | exact bl_refl | assumption | (apply bl_then; assumption) | refine bl_alloc ?_ _ | refine bl_drew ?_ | refine bl_drewN ?_ _))⟩
  case round =>
    clear hT hD0 hkD
    obtain ⟨k, ui, Di, out, hk, rfl, HR, hT, hDi, hO, hkD, hlDi, hlo, hbw⟩ := hrel
    have fT := hT.facts
    have hNr := hN.below hbw
    by_cases h33 : k < 33
    · have hk32 : ((k : Int) ≤ 32) = True := by simp; omega
      have hrd := fun W (h : SlB W ui Di) => rready_any (v := v) Di W h hkD (by omega)
      have hch := fun W (hN : SlB W v N) (h : SlB W ui Di) => rchosen_any N Di W hN h HKN.out hkD (by omega) (by omega)
      have HU : Hid (ruleF N (33 - k) Di out = if rdyB Di then some out else match chosenB Di (wout N Di) with | none => none | some b => ruleF N (33 - (k + 1)) (tog Di [b]) (insB out b)) := by
        unfold Hid
        rw [show 33 - k = (33 - (k + 1)) + 1 by omega]; rfl
      have hcm : ∀ b, chosenB Di (wout N Di) = some b → BarOk b := fun b hb => HKN.out b (wout_mem.1 (chosen_mem hb)).1
      obtain ⟨q, hq⟩ : ∃ q, rdyB Di = q := ⟨_, rfl⟩
      obtain ⟨ch, hchv⟩ : ∃ c, chosenB Di (wout N Di) = c := ⟨_, rfl⟩
      simp only [hq, hchv] at hrd hch HU hcm
      clear hq hchv
      obtain ⟨Ao, co, hAo⟩ := hO.shape
      subst hAo
      cases q
      · cases ch with
        | none =>
          have HE : Hid (ruleO N D = none) := by unfold Hid; rw [HR.out, HU.out]; rfl
          simp only [optB] at hch
          go_wp2_with fail
          refine (hrd _ (hDi.below (by (repeat (first | exact bl_refl | assumption | (apply bl_then; assumption) | refine bl_alloc ?_ _ | refine bl_drew ?_ | refine bl_drewN ?_ _))))).mono ?_
          rintro e w1 ⟨rfl, hb1⟩
          have fT1 := (hT.below hb1).facts
          go_wp2_with fail
          refine (hch _ (hNr.below (by (repeat (first | exact bl_refl | assumption | (apply bl_then; assumption) | refine bl_alloc ?_ _ | refine bl_drew ?_ | refine bl_drewN ?_ _)))) (hDi.below (by (repeat (first | exact bl_refl | assumption | (apply bl_then; assumption) | refine bl_alloc ?_ _ | refine bl_drew ?_ | refine bl_drewN ?_ _))))).mono ?_
          rintro e w2 ⟨rfl, hb2⟩
          go_wp2
          go_ret2
          exact ⟨.slice none 0 0, by rw [HE.out]; rfl, by rw [HE.out]; exact Own.nil_, by (repeat (first | exact bl_refl | assumption | (apply bl_then; assumption) | refine bl_alloc ?_ _ | refine bl_drew ?_ | refine bl_drewN ?_ _))⟩
        | some b =>
          obtain ⟨x, y, s⟩ := b
          have HE : Hid (ruleO N D = ruleF N (33 - (k + 1)) (tog Di [(x, y, s)]) (insB out (x, y, s))) := by unfold Hid; rw [HR.out, HU.out]; rfl
          have hbo := hcm _ rfl
          have HTO := Lib.hid (tog_ok hkD hbo)
          simp only [optB] at hch
          go_wp2_with fail
          refine (hrd _ (hDi.below (by (repeat (first | exact bl_refl | assumption | (apply bl_then; assumption) | refine bl_alloc ?_ _ | refine bl_drew ?_ | refine bl_drewN ?_ _))))).mono ?_
          rintro e w1 ⟨rfl, hb1⟩
          have fT1 := (hT.below hb1).facts
          go_wp2_with fail
          refine (hch _ (hNr.below (by (repeat (first | exact bl_refl | assumption | (apply bl_then; assumption) | refine bl_alloc ?_ _ | refine bl_drew ?_ | refine bl_drewN ?_ _)))) (hDi.below (by (repeat (first | exact bl_refl | assumption | (apply bl_then; assumption) | refine bl_alloc ?_ _ | refine bl_drew ?_ | refine bl_drewN ?_ _))))).mono ?_
          rintro e w2 ⟨rfl, hb2⟩
          have hw2 : w.heap.size < w2.heap.size := Nat.lt_of_lt_of_le hT.lt (Below.size (show Below wr.heap.size wr w2 by (repeat (first | exact bl_refl | assumption | (apply bl_then; assumption) | refine bl_alloc ?_ _ | refine bl_drew ?_ | refine bl_drewN ?_ _))))
          have hT2 := (hT.below (show Below wr.heap.size wr w2 by (repeat (first | exact bl_refl | assumption | (apply bl_then; assumption) | refine bl_alloc ?_ _ | refine bl_drew ?_ | refine bl_drewN ?_ _)))).alloc (.cells #[.int .i64 x, .int .i64 y, .int .i64 s] 70)
          have fhT2 := hT2.facts
          have hB6 := Blk.new w2 70 #[.int .i64 x, .int .i64 y, .int .i64 s]
          have fhB6 := hB6.facts
          have hone : SlB ((w2.alloc (.cells #[.int .i64 x, .int .i64 y, .int .i64 s] 70)).alloc (.cells #[.int .i64 x, .int .i64 y, .int .i64 s] 70)) (.slice (some ⟨w2.heap.size + 1, 0, none⟩) 1 1) [(x, y, s)] := by
            have := (own_one (w2.alloc (.cells #[.int .i64 x, .int .i64 y, .int .i64 s] 70)) (Nat.zero_le _) x y s).rd bc_len
            simpa using this
          have hN2 := hNr.below (show Below wr.heap.size wr w2 by (repeat (first | exact bl_refl | assumption | (apply bl_then; assumption) | refine bl_alloc ?_ _ | refine bl_drew ?_ | refine bl_drewN ?_ _)))
          have hD2 := hDi.below (show Below wr.heap.size wr w2 by (repeat (first | exact bl_refl | assumption | (apply bl_then; assumption) | refine bl_alloc ?_ _ | refine bl_drew ?_ | refine bl_drewN ?_ _)))
          have hO2 := hO.below (show Below wr.heap.size wr w2 by (repeat (first | exact bl_refl | assumption | (apply bl_then; assumption) | refine bl_alloc ?_ _ | refine bl_drew ?_ | refine bl_drewN ?_ _)))
          have hbw2 : Below w.heap.size w w2 := by (repeat (first | exact bl_refl | assumption | (apply bl_then; assumption) | refine bl_alloc ?_ _ | refine bl_drew ?_ | refine bl_drewN ?_ _))
          clear hT hDi hO hNr fT fT1 hb1 hb2 hbw hrd hch
          go_wp2_with fail
          refine (rcut_any N Di [(x, y, s)] _ (hN2.below (by (repeat (first | exact bl_refl | assumption | (apply bl_then; assumption) | refine bl_alloc ?_ _ | refine bl_drew ?_ | refine bl_drewN ?_ _)))) (hD2.below (by (repeat (first | exact bl_refl | assumption | (apply bl_then; assumption) | refine bl_alloc ?_ _ | refine bl_drew ?_ | refine bl_drewN ?_ _)))) hone (by simp; omega)).mono ?_
          rintro e w4 ⟨u4, rfl, hU4, hb4⟩
          replace hT2 := hT2.below (show Below _ _ w4 by (repeat (first | exact bl_refl | assumption | (apply bl_then; assumption) | refine bl_alloc ?_ _ | refine bl_drew ?_ | refine bl_drewN ?_ _)))
          replace fhT2 := hT2.facts
          replace hB6 := hB6.below (show Below _ _ w4 by (repeat (first | exact bl_refl | assumption | (apply bl_then; assumption) | refine bl_alloc ?_ _ | refine bl_drew ?_ | refine bl_drewN ?_ _)))
          replace fhB6 := hB6.facts
          obtain ⟨A4, c4, rfl⟩ := hU4.shape
          have hl4 := hU4.lt
          have hU4' : SlB w4 _ _ := hU4.rd bc_len
          have hO4 := hO2.below (show Below _ _ w4 by (repeat (first | exact bl_refl | assumption | (apply bl_then; assumption) | refine bl_alloc ?_ _ | refine bl_drew ?_ | refine bl_drewN ?_ _)))
          have hlO4 := hO4.lt
          have hbw4 : Below w.heap.size w w4 := by (repeat (first | exact bl_refl | assumption | (apply bl_then; assumption) | refine bl_alloc ?_ _ | refine bl_drew ?_ | refine bl_drewN ?_ _))
          go_wp2_with (refine wpList_store_blk hT2 rfl _ _ _ rfl rfl rfl (by rfl) (by kernel_rfl) (by simp [hv1, show (Value.slice A4 (tog Di [(x, y, s)]).length c4).oneCell' = true from rfl]) ?_; intro w5 hT5 hc5; have fT5 := hT5.facts; have hB65 := hB6.chg hc5 (by simp; omega); have fB65 := hB65.facts)
          have hU5 := hU4'.chg1 hc5 (fun h => by have h1 := (hl4 _ h).1; simp at h1; omega)
          have hO5 := hO4.chg1 hc5 (fun h => by have h1 := (hlO4 _ h).1; omega)
          have hbw5 : Below w.heap.size w w5 := chg_bl hbw4 hc5 (Nat.le_refl _)
          refine (rwith_any out x y s _ (hO5.rd bc_len) (by omega)).mono ?_
          rintro e w6 ⟨v6, rfl, hO6, hb6⟩
          go_wp2_with fail
          go_roundw
          case rel => exact ⟨k + 1, _, tog Di [(x, y, s)], insB out (x, y, s), by omega, by go_num, HE, hT5.below hb6, hU5.below hb6, hO6.base_mono (by have := Below.size (show Below w2.heap.size w2 w2 from bl_refl); have := hbw5.size; have := hB65.lt; omega), HTO.out.1, by have := HTO.out.2; omega, by rw [insB_len]; omega, by (repeat (first | exact bl_refl | assumption | (apply bl_then; assumption) | refine bl_alloc ?_ _ | refine bl_drew ?_ | refine bl_drewN ?_ _))⟩
          case measure => simp [intOf]; omega
      · have HE : Hid (ruleO N D = some out) := by unfold Hid; rw [HR.out, HU.out]; rfl
        go_wp2_with fail
        refine (hrd _ (hDi.below (by (repeat (first | exact bl_refl | assumption | (apply bl_then; assumption) | refine bl_alloc ?_ _ | refine bl_drew ?_ | refine bl_drewN ?_ _))))).mono ?_
        rintro e w1 ⟨rfl, hb1⟩
        go_wp2
        go_ret2
        exact ⟨_, by rw [HE.out]; rfl, by rw [HE.out]; exact (hO.below (by (repeat (first | exact bl_refl | assumption | (apply bl_then; assumption) | refine bl_alloc ?_ _ | refine bl_drew ?_ | refine bl_drewN ?_ _)))).base_mono (Nat.le_succ _), by (repeat (first | exact bl_refl | assumption | (apply bl_then; assumption) | refine bl_alloc ?_ _ | refine bl_drew ?_ | refine bl_drewN ?_ _))⟩
    · obtain rfl : k = 33 := by omega
      have HE : Hid (ruleO N D = none) := HR
      go_wp2
      go_ret2
      exact ⟨.slice none 0 0, by rw [HE.out]; rfl, by rw [HE.out]; exact Own.nil_, by (repeat (first | exact bl_refl | assumption | (apply bl_then; assumption) | refine bl_alloc ?_ _ | refine bl_drew ?_ | refine bl_drewN ?_ _))⟩
end Go.Proofs.YthcnngoaijgnoaaGreat
