/- The reference: letters, walked; strips compared. Conditions: the panel is valid. -/
import Derived.Test.YthkjgcldolnjaaaGreatDoorH42
import Derived.Test.YthkjgcldolnjaaaGreatDoorH36
import Derived.Test.YthkjgcldolnjaaaGreatDoorH34
namespace Go.Proofs.YthkjgcldolnjaaaGreatDoor
open Go.RowKit Go.ChangeMaps
set_option maxHeartbeats 4000000
set_option maxRecDepth 100000

attribute [local go_sem] Oper.semAt_some
/-! # The reference: letters; strips compared, and as those of the reference -/
theorem timS_mem {e : Edg} {x : Stp} : ∀ {n : Nat}, x ∈ timS e n → x.1 ∈ e.1
  | 0, h => by simp [timS] at h
  | n + 1, h => by
    rw [timS, List.mem_append] at h
    rcases h with h | h
    · exact timS_mem h
    · unfold wordS at h
      obtain ⟨c, hc, rfl⟩ := List.mem_map.1 h
      exact hc
def ltr3 (c : UInt8) : Prop := c = 78 ∨ c = 66 ∨ c = 84
theorem SideOk.ltr3 {l : List Edg} (h : SideOk l) : ∀ x ∈ stpL l, Go.Proofs.YthkjgcldolnjaaaGreatDoor.ltr3 x.1 := by
  intro x hx
  unfold stpL at hx
  obtain ⟨e, he, hx⟩ := List.mem_flatMap.1 hx
  have hm := timS_mem hx
  obtain ⟨_, _, hw, _, _⟩ := edgE_zero (h.ok e he)
  unfold wrongW at hw
  rw [List.any_eq_false] at hw
  have := hw _ hm
  unfold Go.Proofs.YthkjgcldolnjaaaGreatDoor.ltr3
  simp at this
  by_cases c1 : x.1 = 78
  · exact .inl c1
  · by_cases c2 : x.1 = 66
    · exact .inr (.inl c2)
    · exact .inr (.inr (this c1 c2))
theorem cntU_take {l : List Stp} {k : Nat} (hk : k < l.length) (q : UInt8) : cntU (l.take (k + 1)) q = cntU (l.take k) q + if l[k].1 = q then 1 else 0 := by
  rw [List.take_succ_eq_append_getElem hk, cntU_snoc]
  by_cases h : q = l[k].1
  · rw [if_pos h, if_pos h.symm, h]
  · rw [if_neg h, if_neg (fun e => h e.symm)]
    rfl
theorem rletters_any {vL vR : Value} (p : Pan) (w : World) (hL : SlE w vL p.2.2.1) (hR : SlE w vR p.2.2.2) (hok : PanOk p) :
    Calls Tryz.prog 87 #[.agg #[sV p.1, .int .i64 p.2.1, vL, vR]] w (RV w (.agg #[.int .i64 (cntU (stpL p.2.2.1 ++ stpL p.2.2.2) 78 : Nat), .int .i64 (cntU (stpL p.2.2.1 ++ stpL p.2.2.2) 66 : Nat), .int .i64 (cntU (stpL p.2.2.1 ++ stpL p.2.2.2) 84 : Nat)])) := by
  have sL := fun W (hb : Below w.heap.size w W) => rsteps_any p.2.2.1 W (hL.below hb) hok.left
  have sR := fun W (hb : Below w.heap.size w W) => rsteps_any p.2.2.2 W (hR.below hb) hok.right
  have hlt : ∀ x ∈ stpL p.2.2.1 ++ stpL p.2.2.2, ltr3 x.1 := fun x hx => by
    rcases List.mem_append.1 hx with h | h
    · exact hok.left.ltr3 x h
    · exact hok.right.ltr3 x h
  have n1 := hok.left.len
  have n2 := hok.right.len
  obtain ⟨AL, cL, rfl, _, _, _⟩ := hL
  obtain ⟨AR, cR, rfl, _, _, _⟩ := hR
  unfold sV
  have hP := ((Blk.new w 24 #[.string ⟨p.1.toArray⟩, .int .i64 p.2.1, .slice AL p.2.2.1.length cL, .slice AR p.2.2.2.length cR]).alloc (.cells #[.int .i64 0, .int .i64 0, .int .i64 0] 97)).alloc (.cells #[.int .i64 0, .int .i64 0, .int .i64 0] 97)
  have hZ := (Blk.new1 w (.cells #[.string ⟨p.1.toArray⟩, .int .i64 p.2.1, .slice AL p.2.2.1.length cL, .slice AR p.2.2.2.length cR] 24) 97 #[.int .i64 0, .int .i64 0, .int .i64 0]).alloc (.cells #[.int .i64 0, .int .i64 0, .int .i64 0] 97)
  have hX := Blk.new2 w (.cells #[.string ⟨p.1.toArray⟩, .int .i64 p.2.1, .slice AL p.2.2.1.length cL, .slice AR p.2.2.2.length cR] 24) (.cells #[.int .i64 0, .int .i64 0, .int .i64 0] 97) 97 #[.int .i64 0, .int .i64 0, .int .i64 0]
  have hb1 : Below w.heap.size w (((w.alloc (.cells #[.string ⟨p.1.toArray⟩, .int .i64 p.2.1, .slice AL p.2.2.1.length cL, .slice AR p.2.2.2.length cR] 24)).alloc (.cells #[.int .i64 0, .int .i64 0, .int .i64 0] 97)).alloc (.cells #[.int .i64 0, .int .i64 0, .int .i64 0] 97)) := bl_alloc (bl_alloc (bl_alloc bl_refl _) _) _
  obtain ⟨S1, hS1⟩ : ∃ S, stpL p.2.2.1 = S := ⟨_, rfl⟩
  obtain ⟨S2, hS2⟩ : ∃ S, stpL p.2.2.2 = S := ⟨_, rfl⟩
  rw [hS1] at sL hlt n1 ⊢
  rw [hS2] at sR hlt n2 ⊢
  clear hS1 hS2 hok
  go_enter Tryz.func87, Tryz.ntmps87
  go_upto_region 2 with fail
  obtain ⟨w1, hw1⟩ : ∃ X, ((w.alloc (.cells #[.string ⟨p.1.toArray⟩, .int .i64 p.2.1, .slice AL p.2.2.1.length cL, .slice AR p.2.2.2.length cR] 24)).alloc (.cells #[.int .i64 0, .int .i64 0, .int .i64 0] 97)).alloc (.cells #[.int .i64 0, .int .i64 0, .int .i64 0] 97) = X := ⟨_, rfl⟩
  rw [hw1] at hP hZ hX hb1 ⊢
  clear hw1
  have fP := hP.facts
  refine wp_region_ords [0, 1, 3, 4] [(2, false)] [5, 6, 7] (by kernel_rfl) (by kernel_rfl) (fun d _ _ _ _ h => by cases d <;> exact h) ?_
  simp only [List.map_cons, List.map_nil, List.getD_cons_zero, List.getD_cons_succ]
  repeat (go_big_quiet_step (fail))
  refine wpQuiet_nil ?_
  refine wpMid_run rfl (fun K hK => ?_)
  go_simp
  refine (sL _ (by (repeat (first | exact bl_refl | assumption | (apply bl_then; assumption) | refine bl_alloc ?_ _ | refine bl_drew ?_ | refine bl_drewN ?_ _)))).mono ?_
  rintro e w2 ⟨v2, rfl, hO2, hb2⟩
  refine hK _ _ (by (repeat (first | exact bl_refl | assumption | (apply bl_then; assumption) | refine bl_alloc ?_ _ | refine bl_drew ?_ | refine bl_drewN ?_ _))) ?_
  clear hK K
  have hP_w2 := hP.below (show Below _ _ w2 by (repeat (first | exact bl_refl | assumption | (apply bl_then; assumption) | refine bl_alloc ?_ _ | refine bl_drew ?_ | refine bl_drewN ?_ _)))
  have fhP_w2 := hP_w2.facts
  refine wpMid_nil ?_
  go_wp2_with (first | (go_at_call 69; refine (sR _ (by (repeat (first | exact bl_refl | assumption | (apply bl_then; assumption) | refine bl_alloc ?_ _ | refine bl_drew ?_ | refine bl_drewN ?_ _)))).mono ?_; rintro e w3 ⟨v3, rfl, hO3, hb3⟩; have hO23 := hO2.below hb3; have hz13 := (show Below w1.heap.size w1 w3 by (repeat (first | exact bl_refl | assumption | (apply bl_then; assumption) | refine bl_alloc ?_ _ | refine bl_drew ?_ | refine bl_drewN ?_ _))).size) | (at_builtin; refine wpList_app rfl stp_elem sc_len sc_one _ _ rfl w1.heap.size _ _ S1 S2 rfl rfl (hO23.base_mono (by simp)) (hO3.rd sc_len) (by simp [maxLen]; omega) (by omega) hz13 ?_; intro v4 w4 hO4 hgr4))
  obtain ⟨A4, c4, rfl, _, _, hr4⟩ := hO4.rd sc_len
  have hb34 : Below w1.heap.size w1 w4 := bl_grown hgr4 (show Below w1.heap.size w1 w3 by (repeat (first | exact bl_refl | assumption | (apply bl_then; assumption) | refine bl_alloc ?_ _ | refine bl_drew ?_ | refine bl_drewN ?_ _))) (fun j e => by have h1 := (hO23.lt j e).1; simp at h1; exact h1)
  have hbw4 : Below w.heap.size w w4 := bl_then hb34 hb1
  have hZ4 := hZ.below hb34
  have hX4 := hX.below hb34
  obtain ⟨L0, hL0⟩ : ∃ L, S1 ++ S2 = L := ⟨_, rfl⟩
  have hll : L0.length ≤ 1024 := by rw [← hL0]; simp; omega
  have hlo : ∀ b off, A4 = some ⟨b, off, none⟩ → w.heap.size + 1 + 1 ≠ b := fun b off e => by
    subst e
    have h1 := (hO4.lt b rfl).1
    have h2 := hX.lt
    omega
  have HL0 := Lib.hid hL0
  rw [hL0] at hr4 hlt ⊢
  clear hL0 hO4 hgr4 hO23 hO2 hO3 hb2 hb3 sL sR hP fP hP_w2 fhP_w2 hZ hX hb1 hb34
  go_loopw [5] (fun i wr => ∃ k : Nat, k ≤ L0.length ∧ i = .int .i64 k ∧ Blk wr (w.heap.size + 1 + 1) 97 #[.int .i64 (cntU (L0.take k) 78 : Nat), .int .i64 (cntU (L0.take k) 66 : Nat), .int .i64 (cntU (L0.take k) 84 : Nat)] ∧ Chg [w.heap.size + 1 + 1] w4 wr) (fun i _ => L0.length - (intOf i).toNat)
  case atStart => exact ⟨0, Nat.zero_le _, rfl, by simpa [cntU] using hX4, Chg.refl⟩
  case round =>
    obtain ⟨k, hk, rfl, hX, hc⟩ := hrel
    obtain ⟨wo, rfl⟩ : ∃ x, x = wr := ⟨_, rfl⟩
    by_cases hlt' : k < L0.length
    · obtain ⟨b, off, rfl, hb, e0, e1⟩ := (hr4.chgN hc (fun b off e => by have := hlo b off e; simp; exact fun h => this h.symm)).stp hlt'
      have hl3 := hlt _ (List.getElem_mem hlt')
      have b78 := cntU_le (L0.take k) 78
      have b66 := cntU_le (L0.take k) 66
      have b84 := cntU_le (L0.take k) 84
      have htk : (L0.take k).length ≤ 1024 := by simp; omega
      rcases hl3 with hd | hd | hd
      · have e78 : cntU (L0.take (k + 1)) 78 = cntU (L0.take k) 78 + 1 := by rw [cntU_take hlt', hd]; rfl
        have e66 : cntU (L0.take (k + 1)) 66 = cntU (L0.take k) 66 + 0 := by rw [cntU_take hlt', hd, if_neg (by decide)]
        have e84 : cntU (L0.take (k + 1)) 84 = cntU (L0.take k) 84 + 0 := by rw [cntU_take hlt', hd, if_neg (by decide)]
        have E78 := Lib.hid e78
        have E66 := Lib.hid e66
        have E84 := Lib.hid e84
        rw [hd] at e0
        have e0' : wo.cell? ⟨b, off + k * 2, none⟩ = some (.int .u8 78) := e0
        clear e0 e78 e66 e84 hd
        obtain ⟨a, ha⟩ : ∃ a, cntU (L0.take k) 78 = a := ⟨_, rfl⟩
        obtain ⟨d, hd⟩ : ∃ a, cntU (L0.take k) 66 = a := ⟨_, rfl⟩
        obtain ⟨f, hf⟩ : ∃ a, cntU (L0.take k) 84 = a := ⟨_, rfl⟩
        rw [ha] at hX E78 b78
        rw [hd] at hX E66 b66
        rw [hf] at hX E84 b84
        clear ha hd hf
        have fX := hX.facts
        go_wp2
        have hX2 := hX.set_ 0 (.int .i64 ((a : Int) + 1))
        have hc2 : Chg [w.heap.size + 1 + 1] w4 (wo.setCell ⟨w.heap.size + 1 + 1, 0, none⟩ (.int .i64 ((a : Int) + 1))) := hc.setIn (p := ⟨w.heap.size + 1 + 1, 0, none⟩) (by simp) _
        go_roundw
        case rel => exact ⟨k + 1, by omega, by go_num, by rw [E78.out, E66.out, E84.out]; simpa using hX2, hc2⟩
        case measure => simp [intOf]; omega
      · have e78 : cntU (L0.take (k + 1)) 78 = cntU (L0.take k) 78 + 0 := by rw [cntU_take hlt', hd, if_neg (by decide)]
        have e66 : cntU (L0.take (k + 1)) 66 = cntU (L0.take k) 66 + 1 := by rw [cntU_take hlt', hd]; rfl
        have e84 : cntU (L0.take (k + 1)) 84 = cntU (L0.take k) 84 + 0 := by rw [cntU_take hlt', hd, if_neg (by decide)]
        have E78 := Lib.hid e78
        have E66 := Lib.hid e66
        have E84 := Lib.hid e84
        rw [hd] at e0
        have e0' : wo.cell? ⟨b, off + k * 2, none⟩ = some (.int .u8 66) := e0
        clear e0 e78 e66 e84 hd
        obtain ⟨a, ha⟩ : ∃ a, cntU (L0.take k) 78 = a := ⟨_, rfl⟩
        obtain ⟨d, hd⟩ : ∃ a, cntU (L0.take k) 66 = a := ⟨_, rfl⟩
        obtain ⟨f, hf⟩ : ∃ a, cntU (L0.take k) 84 = a := ⟨_, rfl⟩
        rw [ha] at hX E78 b78
        rw [hd] at hX E66 b66
        rw [hf] at hX E84 b84
        clear ha hd hf
        have fX := hX.facts
        go_wp2
        have hX2 := hX.set_ 1 (.int .i64 ((d : Int) + 1))
        have hc2 : Chg [w.heap.size + 1 + 1] w4 (wo.setCell ⟨w.heap.size + 1 + 1, 1, none⟩ (.int .i64 ((d : Int) + 1))) := hc.setIn (p := ⟨w.heap.size + 1 + 1, 1, none⟩) (by simp) _
        go_roundw
        case rel => exact ⟨k + 1, by omega, by go_num, by rw [E78.out, E66.out, E84.out]; simpa using hX2, hc2⟩
        case measure => simp [intOf]; omega
      · have e78 : cntU (L0.take (k + 1)) 78 = cntU (L0.take k) 78 + 0 := by rw [cntU_take hlt', hd, if_neg (by decide)]
        have e66 : cntU (L0.take (k + 1)) 66 = cntU (L0.take k) 66 + 0 := by rw [cntU_take hlt', hd, if_neg (by decide)]
        have e84 : cntU (L0.take (k + 1)) 84 = cntU (L0.take k) 84 + 1 := by rw [cntU_take hlt', hd]; rfl
        have E78 := Lib.hid e78
        have E66 := Lib.hid e66
        have E84 := Lib.hid e84
        rw [hd] at e0
        have e0' : wo.cell? ⟨b, off + k * 2, none⟩ = some (.int .u8 84) := e0
        clear e0 e78 e66 e84 hd
        obtain ⟨a, ha⟩ : ∃ a, cntU (L0.take k) 78 = a := ⟨_, rfl⟩
        obtain ⟨d, hd⟩ : ∃ a, cntU (L0.take k) 66 = a := ⟨_, rfl⟩
        obtain ⟨f, hf⟩ : ∃ a, cntU (L0.take k) 84 = a := ⟨_, rfl⟩
        rw [ha] at hX E78 b78
        rw [hd] at hX E66 b66
        rw [hf] at hX E84 b84
        clear ha hd hf
        have fX := hX.facts
        go_wp2
        have hX2 := hX.set_ 2 (.int .i64 ((f : Int) + 1))
        have hc2 : Chg [w.heap.size + 1 + 1] w4 (wo.setCell ⟨w.heap.size + 1 + 1, 2, none⟩ (.int .i64 ((f : Int) + 1))) := hc.setIn (p := ⟨w.heap.size + 1 + 1, 2, none⟩) (by simp) _
        go_roundw
        case rel => exact ⟨k + 1, by omega, by go_num, by rw [E78.out, E66.out, E84.out]; simpa using hX2, hc2⟩
        case measure => simp [intOf]; omega
    · obtain rfl : k = L0.length := by omega
      rw [List.take_length] at hX
      have hZ5 := hZ4.chg hc (by simp)
      have fX := hX.facts
      go_wp2_with (refine wpList_store_blk hZ5 rfl _ _ _ rfl rfl rfl (by rfl) (by kernel_rfl) (by kernel_rfl) ?_; intro w6 hZ6 hc6; have f6 := hZ6.facts)
      have hb6 : Below w.heap.size w w6 := chg_bl (chg_bl hbw4 hc (by omega)) hc6 (by omega)
      refine bodyPost_ret (v := .agg #[.int .i64 (cntU L0 78 : Nat), .int .i64 (cntU L0 66 : Nat), .int .i64 (cntU L0 84 : Nat)]) (by simp [results, Tryz.results87, go_sem, f6]) rfl ?_
      exact ⟨by rw [HL0.out], hb6⟩
/-! ## strips compared -/
theorem neq_strip (a b c d a' b' c' d' : Int) (w : World) : (binOp .neq 124 (.agg #[.int .i64 a, .int .i64 b, .int .i64 c, .int .i64 d]) (.agg #[.int .i64 a', .int .i64 b', .int .i64 c', .int .i64 d'])).run Tryz.prog w = .ok (.bool (!(beqK a b a' b' && beqK c d c' d'))) w := by
  have h := fun x y x' y' W => eqin_pair 9997 x y x' y' W
  have e1 : (Op.equalIn 10000 124 (.agg #[.int .i64 a, .int .i64 b, .int .i64 c, .int .i64 d]) (.agg #[.int .i64 a', .int .i64 b', .int .i64 c', .int .i64 d'])).run Tryz.prog w = .ok (beqK a b a' b' && beqK c d c' d') w := by
    simp [go_sem, h]
    cases beqK a b a' b' <;> cases beqK c d c' d' <;> rfl
  simp only [binOp]
  simp [Op.equal, Op.maxDepth, e1]
theorem strp_eq (s r : Strp) : decide (s = r) = (beqK s.1 s.2.1 r.1 r.2.1 && beqK s.2.2.1 s.2.2.2 r.2.2.1 r.2.2.2) := by
  obtain ⟨a, b, c, d⟩ := s
  obtain ⟨a', b', c', d'⟩ := r
  rw [Bool.eq_iff_iff]
  simp [beqK, and_assoc]
end Go.Proofs.YthkjgcldolnjaaaGreatDoor
