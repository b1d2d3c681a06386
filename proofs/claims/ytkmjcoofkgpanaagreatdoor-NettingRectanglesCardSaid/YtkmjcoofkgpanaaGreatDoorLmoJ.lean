/- NettingMotions: the law, walked. Conditions: the variables are laid. -/
import Derived.Test.YtkmjcoofkgpanaaGreatDoorB21
import Derived.Test.YtkmjcoofkgpanaaGreatDoorLseJ
import Derived.Test.YtkmjcoofkgpanaaGreatDoorNraJ
import Derived.Test.YtkmjcoofkgpanaaGreatDoorPmbJ
import Derived.Deep.CutRange
namespace Go.Proofs.YtkmjcoofkgpanaaGreatDoor
open Go.RowKit Go.ChangeMaps
set_option maxHeartbeats 4000000
set_option maxRecDepth 100000

theorem aMirror {v : Value} (l : List Bar) (w : World) (h : SlB w v l) (hE : netE l = 0) : Calls Tryz.prog 57 #[v] w (RBE w (mirN l) 0) := by
  have := apiMirror_any l w h
  rw [hE] at this
  exact this
theorem aTurn {v : Value} (l : List Bar) (q : Int) (w : World) (h : SlB w v l) (hE : netE l = 0) : Calls Tryz.prog 58 #[v, .int .i64 q] w (RBE w (turnN (qN q) l) 0) := by
  have := apiTurn_any l q w h
  rw [hE] at this
  exact this
theorem only_err {α : Type} {e : Int} (l : List α) (h : e ≠ 0) : onlyOk e l = [] := by unfold onlyOk; rw [if_neg h]
theorem shift_err {l : List Bar} {x y : Int} (h : netE l ≠ 0) : shiftE l x y = netE l ∧ shiftL l x y = [] := by
  have h1 : degE l x y = netE l := by unfold degE firstI; rw [if_neg h]
  have h2 : degE l x y ≠ 0 := by rw [h1]; exact h
  unfold shiftE shiftL
  rw [if_neg h2, if_neg h2, h1]
  exact ⟨rfl, rfl⟩
theorem net_err {e : Int} (h : e ≠ 0) : netB [] e e [] = true := by unfold netB; rw [if_pos h]; simp
theorem mot_shift1 {l : List Bar} {x y : Int} (hE : netE l = 0) (hk : knotE x y ≠ 0) : netB (shiftL l x y) (shiftE l x y) (knotE x y) [] = true := by
  have h1 : degE l x y = knotE x y := by unfold degE firstI; rw [if_pos hE]; unfold firstI; rw [if_neg hk]
  have h2 : degE l x y ≠ 0 := by rw [h1]; exact hk
  unfold shiftE shiftL
  rw [if_neg h2, if_neg h2, h1]
  exact net_err hk
theorem mot_shift2 {l : List Bar} {x y : Int} (hE : netE l = 0) (hk : knotE x y = 0) : netB (shiftL l x y) (shiftE l x y) (whenI (!allIn (l.map (shB (x, y)))) 3) (l.map (shB (x, y))) = true := by
  have h1 : degE l x y = 0 := by unfold degE; rw [hE, hk]; rfl
  unfold shiftE shiftL shE shL
  rw [if_pos h1, if_pos h1]
  cases allIn (l.map (shB (x, y))) <;> simp [netB, whenI]
theorem turn_set1 {l : List Bar} (hE : netE l = 0) (n : Nat) : setB ((turnN n l).map turnB) = turnN (n + 1) l := (turnN_set (netE_ok hE).nodup (fun b hb => ((netE_ok hE).ok b hb).2.2) n).symm
theorem nettingMotions_any (l : List Bar) (x y q : Int) (w : World) {v : Value} (h : SlB w v l) (hL : Lay w) : Calls Tryz.prog 10 #[v, .agg #[.int .i64 x, .int .i64 y], .int .i64 q] w (RV w (.bool true)) := by
  have ca := fun W (hb : Below w.heap.size w W) => awake_any W (hL.below hb)
  have s1 := fun W (hb : Below w.heap.size w W) => shortNet_any l 40 W (h.below hb)
  have hK := Blk.new w 23 #[.int .i64 x, .int .i64 y]
  by_cases hs1 : shortB l 40 = true
  rotate_left
  · rw [show shortB l 40 = false by simpa using hs1] at s1
    go_enter Tryz.func10, Tryz.ntmps10
    go_wp2_with fail
    refine (ca _ (by (repeat (first | exact bl_refl | assumption | (apply bl_then; assumption) | refine bl_alloc ?_ _ | refine bl_drew ?_ | refine bl_drewN ?_ _)))).mono ?_
    rintro e w1 ⟨rfl, hb1⟩
    go_wp2_with fail
    refine (s1 _ (by (repeat (first | exact bl_refl | assumption | (apply bl_then; assumption) | refine bl_alloc ?_ _ | refine bl_drew ?_ | refine bl_drewN ?_ _)))).mono ?_
    rintro e w2 ⟨rfl, hb2⟩
    go_wp2_with fail
    refine (ca _ (by (repeat (first | exact bl_refl | assumption | (apply bl_then; assumption) | refine bl_alloc ?_ _ | refine bl_drew ?_ | refine bl_drewN ?_ _)))).mono ?_
    rintro e w3 ⟨rfl, hb3⟩
    go_wp2
    go_ret
    exact ⟨rfl, by (repeat (first | exact bl_refl | assumption | (apply bl_then; assumption) | refine bl_alloc ?_ _ | refine bl_drew ?_ | refine bl_drewN ?_ _))⟩
  rw [hs1] at s1
  have hl1 := short_len hs1
  have la : l.length ≤ 100000 := by omega
  have r1 := fun W (hb : Below w.heap.size w W) => rnet_sl l W (h.below hb)
  by_cases hE : netE l = 0
  rotate_left
  · have t1 : (netE l != 0) = true := by simp [hE]
    have m1 := fun W z (p : SlB W z l) => apiShift_any l x y W p
    have m2 := fun W z (p : SlB W z l) => apiMirror_any l W p
    have m3 := fun W z (p : SlB W z l) => apiTurn_any l q W p
    rw [(shift_err hE).1, (shift_err hE).2] at m1
    rw [only_err _ hE] at m2 m3
    have hn := net_err hE
    obtain ⟨E, hEE⟩ : ∃ E, netE l = E := ⟨_, rfl⟩
    rw [hEE] at t1 m1 m2 m3 hn r1
    clear hE hEE hs1 hl1
    go_enter Tryz.func10, Tryz.ntmps10
    go_wp2_with fail
    refine (ca _ (by (repeat (first | exact bl_refl | assumption | (apply bl_then; assumption) | refine bl_alloc ?_ _ | refine bl_drew ?_ | refine bl_drewN ?_ _)))).mono ?_
    rintro e w1 ⟨rfl, hb1⟩
    go_wp2_with fail
    refine (s1 _ (by (repeat (first | exact bl_refl | assumption | (apply bl_then; assumption) | refine bl_alloc ?_ _ | refine bl_drew ?_ | refine bl_drewN ?_ _)))).mono ?_
    rintro e w2 ⟨rfl, hb2⟩
    have fK := (hK.below (show Below _ _ w2 by (repeat (first | exact bl_refl | assumption | (apply bl_then; assumption) | refine bl_alloc ?_ _ | refine bl_drew ?_ | refine bl_drewN ?_ _)))).facts
    go_wp2
    refine wp_region_ords [0, 2] [(1, false), (3, false), (4, false), (5, true), (6, true), (7, false)] [8] (by kernel_rfl) (by kernel_rfl) (fun d _ _ _ _ h => by cases d <;> exact h) ?_
    simp only [List.map_cons, List.map_nil, List.getD_cons_zero, List.getD_cons_succ]
    repeat (go_big_quiet_step (fail))
    refine wpQuiet_nil ?_
    refine wpMid_run rfl (fun K hK => ?_)
    go_simp
    refine (copied_any l _ (h.below (by (repeat (first | exact bl_refl | assumption | (apply bl_then; assumption) | refine bl_alloc ?_ _ | refine bl_drew ?_ | refine bl_drewN ?_ _)))) la).mono ?_
    rintro e w3 ⟨v3, rfl, hC3, hb3⟩
    refine hK _ _ (by (repeat (first | exact bl_refl | assumption | (apply bl_then; assumption) | refine bl_alloc ?_ _ | refine bl_drew ?_ | refine bl_drewN ?_ _))) ?_
    clear hK K
    refine wpMid_run rfl (fun K hK => ?_)
    go_simp
    refine (m1 _ _ (hC3.rd bc_len)).mono ?_
    rintro e w4 ⟨v4, rfl, hS4, hb4⟩
    refine hK _ _ (by (repeat (first | exact bl_refl | assumption | (apply bl_then; assumption) | refine bl_alloc ?_ _ | refine bl_drew ?_ | refine bl_drewN ?_ _))) ?_
    clear hK K
    refine wpMid_run rfl (fun K hK => ?_)
    go_simp
    refine hK _ _ (by (repeat (first | exact bl_refl | assumption | (apply bl_then; assumption) | refine bl_alloc ?_ _ | refine bl_drew ?_ | refine bl_drewN ?_ _))) ?_
    clear hK K
    refine wpMid_take rfl ?_
    intro K hK
    go_big_quiet_op
    go_big_quiet_on
    refine wpMid_take rfl ?_
    intro K hK
    go_big_quiet_op
    go_big_quiet_on
    refine wpMid_run rfl (fun K hK => ?_)
    go_simp
    refine hK _ _ (by (repeat (first | exact bl_refl | assumption | (apply bl_then; assumption) | refine bl_alloc ?_ _ | refine bl_drew ?_ | refine bl_drewN ?_ _))) ?_
    clear hK K
    refine wpMid_nil ?_
    go_wp2_with fail
    refine (copied_any l _ (h.below (by (repeat (first | exact bl_refl | assumption | (apply bl_then; assumption) | refine bl_alloc ?_ _ | refine bl_drew ?_ | refine bl_drewN ?_ _)))) la).mono ?_
    rintro e w5 ⟨v5, rfl, hC5, hb5⟩
    go_wp2_with fail
    refine (m2 _ _ (hC5.rd bc_len)).mono ?_
    rintro e w6 ⟨v6, rfl, hM6, hb6⟩
    go_wp2_with fail
    refine (copied_any l _ (h.below (by (repeat (first | exact bl_refl | assumption | (apply bl_then; assumption) | refine bl_alloc ?_ _ | refine bl_drew ?_ | refine bl_drewN ?_ _)))) la).mono ?_
    rintro e w7 ⟨v7, rfl, hC7, hb7⟩
    go_wp2_with fail
    refine (m3 _ _ (hC7.rd bc_len)).mono ?_
    rintro e w8 ⟨v8, rfl, hT8, hb8⟩
    go_wp2_with fail
    refine (r1 _ (by (repeat (first | exact bl_refl | assumption | (apply bl_then; assumption) | refine bl_alloc ?_ _ | refine bl_drew ?_ | refine bl_drewN ?_ _)))).mono ?_
    rintro e w9 ⟨rfl, hb9⟩
    go_wp2_with fail
    refine (lnet_any [] [] E E _ ((hS4.rd bc_len).below (by (repeat (first | exact bl_refl | assumption | (apply bl_then; assumption) | refine bl_alloc ?_ _ | refine bl_drew ?_ | refine bl_drewN ?_ _)))) Sl.nil_).mono ?_
    rintro e w10 ⟨rfl, hb10⟩
    rw [hn]
    go_wp2_with fail
    refine (lnet_any [] [] E E _ ((hM6.rd bc_len).below (by (repeat (first | exact bl_refl | assumption | (apply bl_then; assumption) | refine bl_alloc ?_ _ | refine bl_drew ?_ | refine bl_drewN ?_ _)))) Sl.nil_).mono ?_
    rintro e w11 ⟨rfl, hb11⟩
    rw [hn]
    go_wp2_with fail
    refine (lnet_any [] [] E E _ ((hT8.rd bc_len).below (by (repeat (first | exact bl_refl | assumption | (apply bl_then; assumption) | refine bl_alloc ?_ _ | refine bl_drew ?_ | refine bl_drewN ?_ _)))) Sl.nil_).mono ?_
    rintro e w12 ⟨rfl, hb12⟩
    rw [hn]
    go_wp2
    go_ret
    exact ⟨rfl, by (repeat (first | exact bl_refl | assumption | (apply bl_then; assumption) | refine bl_alloc ?_ _ | refine bl_drew ?_ | refine bl_drewN ?_ _))⟩
  have HE := Lib.hid hE
  have hok := netE_ok hE
  have hlen := short_le hs1 (by omega) hE
  have hends := Lib.hid (netE_ends hE)
  have HO := Lib.hid hok
  have m1 := fun W z (p : SlB W z l) => apiShift_any l x y W p
  have m2 := fun W z (p : SlB W z l) => aMirror l W p hE
  have m3 := fun W z (p : SlB W z l) => aTurn l q W p hE
  rw [hE] at r1
  have hms := mirN_set hok.nodup
  have HMS := Lib.hid hms
  have hqn := qN_eq q
  obtain ⟨m, hm⟩ : ∃ m, qN q = m := ⟨_, rfl⟩
  have hm3 : m ≤ 3 := by
    have h1 := Int.tmod_lt_of_pos (q.tmod 4 + 4) (b := 4) (by decide)
    rw [← hm]
    unfold qN
    omega
  rw [hm] at hqn m3
  clear hE hok hm hms hs1 hl1
  go_enter Tryz.func10, Tryz.ntmps10
  go_wp2_with fail
  refine (ca _ (by (repeat (first | exact bl_refl | assumption | (apply bl_then; assumption) | refine bl_alloc ?_ _ | refine bl_drew ?_ | refine bl_drewN ?_ _)))).mono ?_
  rintro e w1 ⟨rfl, hb1⟩
  go_wp2_with fail
  refine (s1 _ (by (repeat (first | exact bl_refl | assumption | (apply bl_then; assumption) | refine bl_alloc ?_ _ | refine bl_drew ?_ | refine bl_drewN ?_ _)))).mono ?_
  rintro e w2 ⟨rfl, hb2⟩
  have fK := (hK.below (show Below _ _ w2 by (repeat (first | exact bl_refl | assumption | (apply bl_then; assumption) | refine bl_alloc ?_ _ | refine bl_drew ?_ | refine bl_drewN ?_ _)))).facts
  go_wp2
  refine wp_region_ords [0, 2] [(1, false), (3, false), (4, false), (5, true), (6, true), (7, false)] [8] (by kernel_rfl) (by kernel_rfl) (fun d _ _ _ _ h => by cases d <;> exact h) ?_
  simp only [List.map_cons, List.map_nil, List.getD_cons_zero, List.getD_cons_succ]
  repeat (go_big_quiet_step (fail))
  refine wpQuiet_nil ?_
  refine wpMid_run rfl (fun K hK => ?_)
  go_simp
  refine (copied_any l _ (h.below (by (repeat (first | exact bl_refl | assumption | (apply bl_then; assumption) | refine bl_alloc ?_ _ | refine bl_drew ?_ | refine bl_drewN ?_ _)))) la).mono ?_
  rintro e w3 ⟨v3, rfl, hC3, hb3⟩
  refine hK _ _ (by (repeat (first | exact bl_refl | assumption | (apply bl_then; assumption) | refine bl_alloc ?_ _ | refine bl_drew ?_ | refine bl_drewN ?_ _))) ?_
  clear hK K
  refine wpMid_run rfl (fun K hK => ?_)
  go_simp
  refine (m1 _ _ (hC3.rd bc_len)).mono ?_
  rintro e w4 ⟨v4, rfl, hS4, hb4⟩
  refine hK _ _ (by (repeat (first | exact bl_refl | assumption | (apply bl_then; assumption) | refine bl_alloc ?_ _ | refine bl_drew ?_ | refine bl_drewN ?_ _))) ?_
  clear hK K
  refine wpMid_run rfl (fun K hK => ?_)
  go_simp
  refine hK _ _ (by (repeat (first | exact bl_refl | assumption | (apply bl_then; assumption) | refine bl_alloc ?_ _ | refine bl_drew ?_ | refine bl_drewN ?_ _))) ?_
  clear hK K
  refine wpMid_take rfl ?_
  intro K hK
  go_big_quiet_op
  go_big_quiet_on
  refine wpMid_take rfl ?_
  intro K hK
  go_big_quiet_op
  go_big_quiet_on
  refine wpMid_run rfl (fun K hK => ?_)
  go_simp
  refine hK _ _ (by (repeat (first | exact bl_refl | assumption | (apply bl_then; assumption) | refine bl_alloc ?_ _ | refine bl_drew ?_ | refine bl_drewN ?_ _))) ?_
  clear hK K
  refine wpMid_nil ?_
  go_wp2_with fail
  refine (copied_any l _ (h.below (by (repeat (first | exact bl_refl | assumption | (apply bl_then; assumption) | refine bl_alloc ?_ _ | refine bl_drew ?_ | refine bl_drewN ?_ _)))) la).mono ?_
  rintro e w5 ⟨v5, rfl, hC5, hb5⟩
  go_wp2_with fail
  refine (m2 _ _ (hC5.rd bc_len)).mono ?_
  rintro e w6 ⟨v6, rfl, hM6, hb6⟩
  go_wp2_with fail
  refine (copied_any l _ (h.below (by (repeat (first | exact bl_refl | assumption | (apply bl_then; assumption) | refine bl_alloc ?_ _ | refine bl_drew ?_ | refine bl_drewN ?_ _)))) la).mono ?_
  rintro e w7 ⟨v7, rfl, hC7, hb7⟩
  go_wp2_with fail
  refine (m3 _ _ (hC7.rd bc_len)).mono ?_
  rintro e w8 ⟨v8, rfl, hT8, hb8⟩
  go_wp2_with fail
  refine (r1 _ (by (repeat (first | exact bl_refl | assumption | (apply bl_then; assumption) | refine bl_alloc ?_ _ | refine bl_drew ?_ | refine bl_drewN ?_ _)))).mono ?_
  rintro e w9 ⟨rfl, hb9⟩
  have hK9 := hK.below (show Below _ _ w9 by (repeat (first | exact bl_refl | assumption | (apply bl_then; assumption) | refine bl_alloc ?_ _ | refine bl_drew ?_ | refine bl_drewN ?_ _)))
  clear fK
  have fK := hK9.facts
  go_wp2_with fail
  refine (rknot_any x y _).mono ?_
  rintro e w10 ⟨rfl, hb10⟩
  have hK10 := hK9.below hb10
  have hS10 := (hS4.rd bc_len).below (show Below w4.heap.size w4 w10 by (repeat (first | exact bl_refl | assumption | (apply bl_then; assumption) | refine bl_alloc ?_ _ | refine bl_drew ?_ | refine bl_drewN ?_ _)))
  have hM10 := (hM6.rd bc_len).below (show Below w6.heap.size w6 w10 by (repeat (first | exact bl_refl | assumption | (apply bl_then; assumption) | refine bl_alloc ?_ _ | refine bl_drew ?_ | refine bl_drewN ?_ _)))
  have hT10 := (hT8.rd bc_len).below (show Below w8.heap.size w8 w10 by (repeat (first | exact bl_refl | assumption | (apply bl_then; assumption) | refine bl_alloc ?_ _ | refine bl_drew ?_ | refine bl_drewN ?_ _)))
  have hbw : Below w.heap.size w w10 := by (repeat (first | exact bl_refl | assumption | (apply bl_then; assumption) | refine bl_alloc ?_ _ | refine bl_drew ?_ | refine bl_drewN ?_ _))
  clear fK hK hK9 hS4 hM6 hT8 hC3 hC5 hC7 hb1 hb2 hb3 hb4 hb5 hb6 hb7 hb8 hb9 hb10
  have fK := hK10.facts
  go_upto_if 69 with fail
  go_cut [14, 15, 16] from 68 (fun s14 s15 s16 wx => ∃ o S, s14 = .int .i64 o ∧ SlB wx s15 S ∧ Hid (netB (shiftL l x y) (shiftE l x y) o S = true) ∧ Below w10.heap.size w10 wx)
  case first =>
    by_cases hk : knotE x y = 0
    · obtain ⟨z1, z2, z3, z4, _⟩ := knotE_zero hk
      have HR := Lib.hid (mot_shift2 HE.out hk)
      have t2 : (knotE x y == 0) = true := by simp [hk]
      have rs := rshifted_any l x y w10 (h.below hbw) HO.out.ok (by omega) (by omega) (by omega)
      obtain ⟨S, hS⟩ : ∃ S, l.map (shB (x, y)) = S := ⟨_, rfl⟩
      rw [hS] at HR rs
      obtain ⟨a, ha⟩ : ∃ a, allIn S = a := ⟨_, rfl⟩
      rw [ha] at HR rs
      clear hk hS ha
      go_wp2_with fail
      refine rs.mono ?_
      rintro e w11 ⟨v11, rfl, hO11, hb11⟩
      go_wp2_with fail
      refine (lwhen_any (!a) 3 _).mono ?_
      rintro e w12 ⟨rfl, hb12⟩
      go_wp2_with fail
      go_meet
      case rel => exact ⟨_, S, rfl, (hO11.rd bc_len).below hb12, HR, by (repeat (first | exact bl_refl | assumption | (apply bl_then; assumption) | refine bl_alloc ?_ _ | refine bl_drew ?_ | refine bl_drewN ?_ _))⟩
    · have HR := Lib.hid (mot_shift1 HE.out hk)
      have t2 : (knotE x y == 0) = false := by simp [hk]
      clear hk
      go_wp2_with fail
      go_meet
      case rel => exact ⟨_, [], rfl, Sl.nil_, HR, by (repeat (first | exact bl_refl | assumption | (apply bl_then; assumption) | refine bl_alloc ?_ _ | refine bl_drew ?_ | refine bl_drewN ?_ _))⟩
  case rest =>
    obtain ⟨o, S, rfl, hS15, HR, hbc⟩ := hcut
    obtain ⟨w13, rfl⟩ : ∃ x, x = wc := ⟨_, rfl⟩
    have hS13 := hS10.below hbc
    have hM13 := hM10.below hbc
    have hT13 := hT10.below hbc
    have hbw13 := bl_then hbc hbw
    clear hS10 hM10 hT10 hK10 fK hbc hbw
    go_upto_region 17 with fail
    clear hqn
    go_loopw [17, 84] (fun o i wr => ∃ n : Nat, n ≤ m ∧ i = .int .i64 n ∧ SlB wr o (turnN n l) ∧ Below w13.heap.size w13 wr) (fun _ i _ => m - (intOf i).toNat)
    case atStart => exact ⟨0, Nat.zero_le _, rfl, h.below hbw13, by (repeat (first | exact bl_refl | assumption | (apply bl_then; assumption) | refine bl_alloc ?_ _ | refine bl_drew ?_ | refine bl_drewN ?_ _))⟩
    case round =>
      obtain ⟨n, hn, rfl, hO, hbr⟩ := hrel
      obtain ⟨wo, rfl⟩ : ∃ x, x = wr := ⟨_, rfl⟩
      by_cases hnm : n < m
      · have hl2 := turnN_len l n
        have HT := Lib.hid (turn_set1 HE.out n)
        go_wp2_with fail
        refine (rturned_any _ _ hO (fun b hb => (turnN_ends hends.out n b hb).ok) (by omega)).mono ?_
        rintro e w14 ⟨v14, rfl, hO14, hb14⟩
        rw [HT.out] at hO14
        go_wp2
        go_roundw
        case rel => exact ⟨n + 1, by omega, by go_num, hO14.rd bc_len, bl_then hb14 hbr⟩
        case measure => simp [intOf]; omega
      · have hnm2 : n = m := by omega
        subst hnm2
        have hbw := bl_then hbr hbw13
        go_wp2_with fail
        refine (lnet_any _ _ _ _ _ (hS13.below (by (repeat (first | exact bl_refl | assumption | (apply bl_then; assumption) | refine bl_alloc ?_ _ | refine bl_drew ?_ | refine bl_drewN ?_ _)))) (hS15.below (by (repeat (first | exact bl_refl | assumption | (apply bl_then; assumption) | refine bl_alloc ?_ _ | refine bl_drew ?_ | refine bl_drewN ?_ _))))).mono ?_
        rintro e w16 ⟨rfl, hb16⟩
        rw [HR.out]
        go_wp2_with fail
        refine (rmirror_any l _ (h.below (by (repeat (first | exact bl_refl | assumption | (apply bl_then; assumption) | refine bl_alloc ?_ _ | refine bl_drew ?_ | refine bl_drewN ?_ _)))) HO.out.ok (by omega)).mono ?_
        rintro e w17 ⟨v17, rfl, hO17, hb17⟩
        rw [← HMS.out] at hO17
        go_wp2_with fail
        refine (lnet_any _ _ _ _ _ (hM13.below (by (repeat (first | exact bl_refl | assumption | (apply bl_then; assumption) | refine bl_alloc ?_ _ | refine bl_drew ?_ | refine bl_drewN ?_ _)))) (hO17.rd bc_len)).mono ?_
        rintro e w18 ⟨rfl, hb18⟩
        rw [show ∀ L : List Bar, netB L 0 0 L = true from fun L => by simp [netB]]
        go_wp2_with fail
        refine (lnet_any _ _ _ _ _ (hT13.below (by (repeat (first | exact bl_refl | assumption | (apply bl_then; assumption) | refine bl_alloc ?_ _ | refine bl_drew ?_ | refine bl_drewN ?_ _)))) (hO.below (by (repeat (first | exact bl_refl | assumption | (apply bl_then; assumption) | refine bl_alloc ?_ _ | refine bl_drew ?_ | refine bl_drewN ?_ _))))).mono ?_
        rintro e w19 ⟨rfl, hb19⟩
        rw [show ∀ L : List Bar, netB L 0 0 L = true from fun L => by simp [netB]]
        go_wp2
        go_ret
        exact ⟨rfl, by (repeat (first | exact bl_refl | assumption | (apply bl_then; assumption) | refine bl_alloc ?_ _ | refine bl_drew ?_ | refine bl_drewN ?_ _))⟩
end Go.Proofs.YtkmjcoofkgpanaaGreatDoor
