/- The reference: normal and canonical forms, walked. Conditions: the net has no error. -/
import Derived.Test.YtkmjcoofkgpanaaGreatDoorB06
import Derived.Test.YtkmjcoofkgpanaaGreatDoorPmbJ
import Derived.Test.YtkmjcoofkgpanaaGreatDoorB21
import Derived.Deep.CutRange
namespace Go.Proofs.YtkmjcoofkgpanaaGreatDoor
open Go.RowKit Go.ChangeMaps
set_option maxHeartbeats 4000000
set_option maxRecDepth 100000

attribute [local go_sem] Oper.semAt_some
theorem rnormal_any {v : Value} (l : List Bar) (w : World) (h : SlB w v l) (he : ∀ b ∈ l, EndsIn b) (hlen : l.length ≤ 10000) : Calls Tryz.prog 100 #[v] w (RBB w (nrm l) (allIn (nrm l))) := by
  have hS := h
  obtain ⟨A, c, rfl, hlc, hcm, h⟩ := h
  by_cases h0 : l.length = 0
  · have e : l = [] := List.eq_nil_of_length_eq_zero h0
    subst e
    go_enter Tryz.func100, Tryz.ntmps100
    go_wp2
    go_ret2
    exact ⟨_, rfl, Own.nil_, by (repeat (first | exact bl_refl | assumption | (apply bl_then; assumption) | refine bl_alloc ?_ _ | refine bl_drew ?_ | refine bl_drewN ?_ _))⟩
  · have h0' : 0 < l.length := by omega
    have t1 : ((l.length : Int) == 0) = false := beq_false_of_ne (by omega)
    obtain ⟨b, off, rfl, hb, e0, e1, e2⟩ := h.bar h0'
    have hh := hdK_get h0'
    have hbo := he _ (List.getElem_mem h0')
    have HK : Hid (∀ b ∈ l, BarOk b) := fun b hb => (he b hb).ok
    obtain ⟨⟨x, y, s⟩, hx⟩ : ∃ z, l[0] = z := ⟨_, rfl⟩
    rw [hx] at e0 e1 e2 hbo hh
    simp only [Nat.zero_mul, Nat.add_zero] at e0 e1 e2 hh
    have q1 := hbo.x
    have q2 := hbo.y
    simp only at q1 q2
    have m1 : IntKind.i64.wrap (0 - x) = -x := by rw [IntWalk.i64_in _ (by omega)]; omega
    have m2 : IntKind.i64.wrap (0 - y) = -y := by rw [IntWalk.i64_in _ (by omega)]; omega
    have m3 : IntKind.i64.wrap (-x) = -x := by rw [IntWalk.i64_in _ (by omega)]
    have m4 : IntKind.i64.wrap (-y) = -y := by rw [IntWalk.i64_in _ (by omega)]
    have HN : Hid (nrm l = l.map (shB (-x, -y))) := by unfold Hid nrm; rw [hh]
    clear hx hh hbo h0
    go_enter Tryz.func100, Tryz.ntmps100
    go_wp2
    refine wp_region_ords [0, 1, 2, 3, 4, 5, 6, 7, 8, 9, 10, 11] [(12, false), (13, true), (14, false)] [15, 16] (by kernel_rfl) (by kernel_rfl) (fun d _ _ _ _ h => by cases d <;> exact h) ?_
    simp only [List.map_cons, List.map_nil, List.getD_cons_zero, List.getD_cons_succ]
    repeat (go_big_quiet_step (fail))
    refine wpQuiet_nil ?_
    refine wpMid_run rfl (fun K hK => ?_)
    go_simp
    refine (rshifted_any l (-x) (-y) _ (hS.below (by (repeat (first | exact bl_refl | assumption | (apply bl_then; assumption) | refine bl_alloc ?_ _ | refine bl_drew ?_ | refine bl_drewN ?_ _)))) HK.out hlen (by omega) (by omega)).mono ?_
    rintro e w1 ⟨v1, rfl, hO1, hb1⟩
    refine hK _ _ (by (repeat (first | exact bl_refl | assumption | (apply bl_then; assumption) | refine bl_alloc ?_ _ | refine bl_drew ?_ | refine bl_drewN ?_ _))) ?_
    clear hK K
    refine wpMid_take rfl ?_
    intro K hK
    go_big_quiet_op
    go_big_quiet_on
    refine wpMid_run rfl (fun K hK => ?_)
    go_simp
    refine hK _ _ (by (repeat (first | exact bl_refl | assumption | (apply bl_then; assumption) | refine bl_alloc ?_ _ | refine bl_drew ?_ | refine bl_drewN ?_ _))) ?_
    clear hK K
    refine wpMid_nil ?_
    go_wp2
    go_ret2
    exact ⟨_, by rw [HN.out]; rfl, by rw [HN.out]; exact hO1, by (repeat (first | exact bl_refl | assumption | (apply bl_then; assumption) | refine bl_alloc ?_ _ | refine bl_drew ?_ | refine bl_drewN ?_ _))⟩
theorem bef_nil (l r : List Bar) (hl : l.length = r.length) : bef (l.drop l.length) (r.drop l.length) = false := by
  rw [List.drop_length, hl, List.drop_length]; rfl
theorem rbefore_any {v u : Value} (l r : List Bar) (w : World) (h : SlB w v l) (h' : SlB w u r) (hlen : l.length = r.length) : Calls Tryz.prog 101 #[v, u] w (RV w (.bool (bef l r))) := by
  obtain ⟨A, c, rfl, hlc, hcm, h⟩ := h
  obtain ⟨A', c', rfl, hlc', hcm', h'⟩ := h'
  have hl : l.length ≤ maxLen := Nat.le_trans hlc hcm
  unfold maxLen at hl
  have HL := Lib.hid hlen
  clear hlen
  go_enter Tryz.func101, Tryz.ntmps101
  go_wp2
  go_loopw [5] (fun i wr => ∃ k : Nat, k ≤ l.length ∧ i = .int .i64 k ∧ Hid (bef l r = bef (l.drop k) (r.drop k)) ∧ Below w.heap.size w wr) (fun i _ => l.length - (intOf i).toNat)
  case atStart => exact ⟨0, Nat.zero_le _, rfl, by simp [Hid], by (repeat (first | exact bl_refl | assumption | (apply bl_then; assumption) | refine bl_alloc ?_ _ | refine bl_drew ?_ | refine bl_drewN ?_ _))⟩
  case round =>
    obtain ⟨k, hk, rfl, H, hbw⟩ := hrel
    obtain ⟨wo, rfl⟩ : ∃ x, x = wr := ⟨_, rfl⟩
    by_cases hlt : k < l.length
    · have hlt' : k < r.length := by have := HL.out; omega
      have hr := h.below hbw
      have hr' := h'.below hbw
      obtain ⟨b, off, rfl, hb, e0, e1, e2⟩ := hr.bar hlt
      obtain ⟨b', off', rfl, hb', d0, d1, d2⟩ := hr'.bar hlt'
      have HD := Lib.hid (bef_drop hlt hlt')
      obtain ⟨⟨x, y, s⟩, hx⟩ : ∃ z, l[k] = z := ⟨_, rfl⟩
      obtain ⟨⟨x', y', s'⟩, hx'⟩ : ∃ z, r[k] = z := ⟨_, rfl⟩
      rw [hx, hx'] at HD
      rw [hx] at e0 e1 e2
      rw [hx'] at d0 d1 d2
      simp only at e0 e1 e2 d0 d1 d2
      clear hx hx'
      obtain ⟨g, hg⟩ : ∃ g, beqB x y s x' y' s' = g := ⟨_, rfl⟩
      cases g
      · have H2 : Hid (bef l r = barLt x y s x' y' s') := by
          unfold Hid
          rw [H.out, HD.out, if_neg (of_decide_eq_false hg)]
          show decide (barLt x y s x' y' s' = true) = _
          cases barLt x y s x' y' s' <;> rfl
        clear HD H
        go_wp2
        refine wp_region_ords [0, 1, 2, 3, 4, 5, 6, 7, 8] [] [] (by kernel_rfl) (by kernel_rfl) (fun d _ _ _ _ h => by cases d <;> exact h) ?_
        simp only [List.map_cons, List.map_nil, List.getD_cons_zero, List.getD_cons_succ]
        repeat (go_big_quiet_step (fail))
        refine wpQuiet_nil ?_
        refine wpMid_nil ?_
        go_wp2
        refine wp_region_ords [0, 1, 2, 3, 4, 5, 6, 7] [] [8, 9] (by kernel_rfl) (by kernel_rfl) (fun d _ _ _ _ h => by cases d <;> exact h) ?_
        simp only [List.map_cons, List.map_nil, List.getD_cons_zero, List.getD_cons_succ]
        repeat (go_big_quiet_step (fail))
        refine wpQuiet_nil ?_
        refine wpMid_nil ?_
        go_wp2_with fail
        refine (rless_any _ _ _ _ _ _ _).mono ?_
        rintro e w3 ⟨rfl, hb3⟩
        go_wp2
        go_ret
        exact ⟨by rw [H2.out]; rfl, by (repeat (first | exact bl_refl | assumption | (apply bl_then; assumption) | refine bl_alloc ?_ _ | refine bl_drew ?_ | refine bl_drewN ?_ _))⟩
      · have H2 : Hid (bef l r = bef (l.drop (k + 1)) (r.drop (k + 1))) := by unfold Hid; rw [H.out, HD.out, if_pos (of_decide_eq_true hg)]
        clear HD H
        go_wp2
        refine wp_region_ords [0, 1, 2, 3, 4, 5, 6, 7, 8] [] [] (by kernel_rfl) (by kernel_rfl) (fun d _ _ _ _ h => by cases d <;> exact h) ?_
        simp only [List.map_cons, List.map_nil, List.getD_cons_zero, List.getD_cons_succ]
        repeat (go_big_quiet_step (fail))
        refine wpQuiet_nil ?_
        refine wpMid_nil ?_
        go_wp2
        go_roundw
        case rel => exact ⟨k + 1, by omega, by go_num, H2, by (repeat (first | exact bl_refl | assumption | (apply bl_then; assumption) | refine bl_alloc ?_ _ | refine bl_drew ?_ | refine bl_drewN ?_ _))⟩
        case measure => simp [intOf]; omega
    · have hkl : k = l.length := by omega
      subst hkl
      have HN : Hid (bef l r = false) := by unfold Hid; rw [H.out, bef_nil l r HL.out]
      go_wp2
      go_ret
      exact ⟨by rw [HN.out]; rfl, by (repeat (first | exact bl_refl | assumption | (apply bl_then; assumption) | refine bl_alloc ?_ _ | refine bl_drew ?_ | refine bl_drewN ?_ _))⟩
theorem frm_ends {l : List Bar} (h : ∀ b ∈ l, EndsIn b) (k : Nat) : ∀ b ∈ frm l k, EndsIn b := by
  unfold frm
  split
  · exact turnN_ends h k
  · exact turnN_ends (mirN_ends h) (k - 4)
theorem rcN_ends {l : List Bar} (hs : l.Pairwise bltP) (h : ∀ b ∈ l, EndsIn b) {k : Nat} (hk : k < 8) : (∀ b ∈ rcN l k, EndsIn b) ∧ (rcN l k).length = l.length := by
  have hd : ∀ b ∈ l, Sided b := fun b hb => (h b hb).ok.2.2
  have key := rcI_frm hs hd hk
  by_cases h4 : k = 4
  · subst h4
    have h3 := rcI_frm hs hd (show 3 < 8 by omega)
    have e : rcN l 4 = turnN 4 l := by
      rw [rcN_succ, h3]
      unfold frm
      rw [if_pos (by omega), turnN_set (sortedB_nodup hs) hd 3]
    rw [e]
    exact ⟨turnN_ends h 4, turnN_len l 4⟩
  · unfold rcI at key
    rw [if_neg h4] at key
    rw [key]
    exact ⟨frm_ends h k, frm_len l k⟩
theorem rcB_len {l : List Bar} (hs : l.Pairwise bltP) (hd : ∀ b ∈ l, Sided b) {k : Nat} (hk : k ≤ 8) : (rcB l k).length = l.length := by
  cases k with
  | zero => unfold rcB; exact nrm_len l
  | succ k => rw [rcB_bst hs hd (by omega), bst_len_eq l _ (by omega)]
def RSB (w : World) (l : List Bar) (b : Bool) (e : Ending) (w' : World) : Prop := ∃ v, e = .returned (.tuple #[v, .bool b]) ∧ SlB w' v l ∧ Below w.heap.size w w'
theorem rcanon_any {v : Value} (l : List Bar) (w : World) (h : SlB w v l) (hE : netE l = 0) : Calls Tryz.prog 30 #[v] w (RSB w (rcB l 8) (rcA l 8)) := by
  have hok := netE_ok hE
  have hends := netE_ends hE
  have hl1 := hok.len1
  have hd : ∀ b ∈ l, Sided b := fun b hb => (hok.ok b hb).2.2
  have HN : Hid (∀ k, k < 8 → (∀ b ∈ rcN l k, EndsIn b) ∧ (rcN l k).length = l.length) := fun k hk => rcN_ends hok.sorted hends hk
  have HI : Hid (∀ k, k < 8 → (∀ b ∈ rcI l k, EndsIn b) ∧ (rcI l k).length = l.length) := fun k hk => by
    rw [rcI_frm hok.sorted hd hk]
    exact ⟨frm_ends hends k, frm_len l k⟩
  have HB : Hid (∀ k, k ≤ 8 → (rcB l k).length = l.length) := fun k hk => rcB_len hok.sorted hd hk
  have HE := Lib.hid hends
  clear hE hok hends hd
  go_enter Tryz.func30, Tryz.ntmps30
  go_wp2_with fail
  refine (rnormal_any l _ (h.below (by (repeat (first | exact bl_refl | assumption | (apply bl_then; assumption) | refine bl_alloc ?_ _ | refine bl_drew ?_ | refine bl_drewN ?_ _)))) HE.out hl1).mono ?_
  rintro e w1 ⟨v1, rfl, hO1, hb1⟩
  have hS1 : SlB w1 v1 (rcB l 0) := hO1.rd bc_len
  have h1 := h.below hb1
  have hA0 : rcA l 0 = allIn (nrm l) := rfl
  rw [← hA0]
  clear hO1 hA0
  go_wp2
  go_loopw [0, 4, 5, 6] (fun s0 s4 s5 i wr => ∃ k : Nat, k ≤ 8 ∧ i = .int .i64 k ∧ (k < 8 → SlB wr s0 (rcN l k)) ∧ SlB wr s4 (rcB l k) ∧ s5 = .bool (rcA l k) ∧ Below w.heap.size w wr) (fun _ _ _ i _ => 8 - (intOf i).toNat)
  case atStart => exact ⟨0, by omega, rfl, fun _ => h1, hS1, rfl, hb1⟩
  case round =>
    clear hS1 h1 hb1
    obtain ⟨k, hk, rfl, hL0, hBk, rfl, hbw⟩ := hrel
    obtain ⟨wo, rfl⟩ : ∃ x, x = wr := ⟨_, rfl⟩
    by_cases hk8 : k < 8
    · have hL := hL0 hk8
      have hn1 := HN.out k hk8
      have hi1 := HI.out k hk8
      have hb1 := HB.out k hk
      have HD : Hid (rcI l k = if k = 4 then setB ((rcN l k).map mirB) else rcN l k) := rfl
      have HB2 : Hid (rcB l (k + 1) = if bef (nrm (rcI l k)) (rcB l k) then nrm (rcI l k) else rcB l k) := rfl
      have HA2 : Hid (rcA l (k + 1) = (rcA l k && allIn (nrm (rcI l k)))) := rfl
      have HN2 := Lib.hid (rcN_succ l k)
      have hnl := nrm_len (rcI l k)
      obtain ⟨X, hX⟩ : ∃ X, rcN l k = X := ⟨_, rfl⟩
      obtain ⟨Y, hY⟩ : ∃ Y, rcI l k = Y := ⟨_, rfl⟩
      obtain ⟨Z, hZ⟩ : ∃ Z, rcB l k = Z := ⟨_, rfl⟩
      obtain ⟨a, ha⟩ : ∃ a, rcA l k = a := ⟨_, rfl⟩
      rw [hX] at hL hn1 HD
      rw [hY] at hi1 HD HB2 HA2 HN2 hnl
      rw [hZ] at hBk hb1 HB2
      rw [ha] at HA2 ⊢
      have HX := Lib.hid hn1.1
      have HY := Lib.hid hi1.1
      have hXl : X.length ≤ 10000 := by have := hn1.2; omega
      have hYl : Y.length ≤ 10000 := by have := hi1.2; omega
      have HYZ : Hid ((nrm Y).length = Z.length) := by unfold Hid; have := hi1.2; omega
      clear hX hY hZ ha hn1 hi1 hb1 hL0 hnl
      go_upto_if 19 with fail
      go_cut [0] from 18 to 22 (fun s0 wx => SlB wx s0 Y ∧ Below wo.heap.size wo wx)
      case first =>
        by_cases h4 : k = 4
        · have HYe : Hid (Y = setB (X.map mirB)) := by unfold Hid; rw [HD.out, if_pos h4]
          subst h4
          go_wp2_with fail
          refine (rmirror_any X _ (hL.below (by (repeat (first | exact bl_refl | assumption | (apply bl_then; assumption) | refine bl_alloc ?_ _ | refine bl_drew ?_ | refine bl_drewN ?_ _)))) (fun b hb => (HX.out b hb).ok) hXl).mono ?_
          rintro e w5 ⟨v5, rfl, hO5, hb5⟩
          go_wp2_with fail
          go_meet
          case rel => exact ⟨by rw [HYe.out]; exact hO5.rd bc_len, by (repeat (first | exact bl_refl | assumption | (apply bl_then; assumption) | refine bl_alloc ?_ _ | refine bl_drew ?_ | refine bl_drewN ?_ _))⟩
        · have HYe : Hid (Y = X) := by unfold Hid; rw [HD.out, if_neg h4]
          have t4 : ((k : Int) == 4) = false := beq_false_of_ne (by omega)
          clear h4
          go_wp2_with fail
          go_meet
          case rel => exact ⟨by rw [HYe.out]; exact hL, by (repeat (first | exact bl_refl | assumption | (apply bl_then; assumption) | refine bl_alloc ?_ _ | refine bl_drew ?_ | refine bl_drewN ?_ _))⟩
      case rest =>
        obtain ⟨hSY, hbc⟩ := hcut
        obtain ⟨w5, rfl⟩ : ∃ x, x = wc := ⟨_, rfl⟩
        have hZ5 := hBk.below hbc
        have hbw5 := bl_then hbc hbw
        clear hBk hL hbc hbw HD
        obtain ⟨q, hq⟩ : ∃ q, allIn (nrm Y) = q := ⟨_, rfl⟩
        obtain ⟨g, hg⟩ : ∃ g, bef (nrm Y) Z = g := ⟨_, rfl⟩
        have cn := fun W z (p : SlB W z Y) => rnormal_any Y W p HY.out hYl
        have cb := fun W z z' (p : SlB W z (nrm Y)) (p' : SlB W z' Z) => rbefore_any (nrm Y) Z W p p' HYZ.out
        have ct := fun W z (p : SlB W z Y) => rturned_any Y W p (fun b hb => (HY.out b hb).ok) hYl
        rw [hq] at cn HA2
        rw [hg] at cb HB2
        rw [← HN2.out] at ct
        clear hq hg
        have HAe : Hid ((a && q) = rcA l (k + 1)) := HA2.out.symm
        cases a
        all_goals
          cases g
          all_goals
            as_aux_lemma =>
              go_wp2_with fail
              refine (cn _ _ hSY).mono ?_
              rintro e w6 ⟨v6, rfl, hO6, hb6⟩
              go_wp2_with fail
              refine (cb _ _ _ ((hO6.rd bc_len).below (by (repeat (first | exact bl_refl | assumption | (apply bl_then; assumption) | refine bl_alloc ?_ _ | refine bl_drew ?_ | refine bl_drewN ?_ _)))) (hZ5.below (by (repeat (first | exact bl_refl | assumption | (apply bl_then; assumption) | refine bl_alloc ?_ _ | refine bl_drew ?_ | refine bl_drewN ?_ _))))).mono ?_
              rintro e w7 ⟨rfl, hb7⟩
              go_wp2_with fail
              refine (ct _ _ (hSY.below (by (repeat (first | exact bl_refl | assumption | (apply bl_then; assumption) | refine bl_alloc ?_ _ | refine bl_drew ?_ | refine bl_drewN ?_ _))))).mono ?_
              rintro e w8 ⟨v8, rfl, hO8, hb8⟩
              go_wp2
              go_roundw
              case rel => first | exact ⟨k + 1, by omega, by go_num, fun _ => hO8.rd bc_len, by rw [HB2.out]; exact hZ5.below (by (repeat (first | exact bl_refl | assumption | (apply bl_then; assumption) | refine bl_alloc ?_ _ | refine bl_drew ?_ | refine bl_drewN ?_ _))), by rw [← HAe.out]; rfl, by (repeat (first | exact bl_refl | assumption | (apply bl_then; assumption) | refine bl_alloc ?_ _ | refine bl_drew ?_ | refine bl_drewN ?_ _))⟩ | exact ⟨k + 1, by omega, by go_num, fun _ => hO8.rd bc_len, by rw [HB2.out]; exact (hO6.rd bc_len).below (by (repeat (first | exact bl_refl | assumption | (apply bl_then; assumption) | refine bl_alloc ?_ _ | refine bl_drew ?_ | refine bl_drewN ?_ _))), by rw [← HAe.out]; rfl, by (repeat (first | exact bl_refl | assumption | (apply bl_then; assumption) | refine bl_alloc ?_ _ | refine bl_drew ?_ | refine bl_drewN ?_ _))⟩
              case measure => simp [intOf]; omega
    · obtain rfl : k = 8 := by omega
      go_wp2
      go_ret2
      exact ⟨_, rfl, hBk, hbw⟩
end Go.Proofs.YtkmjcoofkgpanaaGreatDoor
