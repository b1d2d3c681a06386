/- NettingEuler: the law, walked. Conditions: the variables are laid. -/
import Derived.Test.YtkmjcoofkgpanaaGreatDoorB21
import Derived.Test.YtkmjcoofkgpanaaGreatDoorPeqJ
import Derived.Test.YtkmjcoofkgpanaaGreatDoorLpaJ
import Derived.Deep.CutRange
namespace Go.Proofs.YtkmjcoofkgpanaaGreatDoor
open Go.RowKit Go.ChangeMaps
set_option maxHeartbeats 4000000
set_option maxRecDepth 100000

attribute [local go_sem] Oper.semAt_some
@[go_sem] theorem idx5_0 (a b c d e : Int) (w : World) : (Instr.index 52 (.agg #[.int .i64 a, .int .i64 b, .int .i64 c, .int .i64 d, .int .i64 e]) (.int .i64 0)).run Tryz.prog w = .ok (.int .i64 a) w := by kernel_rfl
@[go_sem] theorem idx5_1 (a b c d e : Int) (w : World) : (Instr.index 52 (.agg #[.int .i64 a, .int .i64 b, .int .i64 c, .int .i64 d, .int .i64 e]) (.int .i64 1)).run Tryz.prog w = .ok (.int .i64 b) w := by kernel_rfl
@[go_sem] theorem idx5_2 (a b c d e : Int) (w : World) : (Instr.index 52 (.agg #[.int .i64 a, .int .i64 b, .int .i64 c, .int .i64 d, .int .i64 e]) (.int .i64 2)).run Tryz.prog w = .ok (.int .i64 c) w := by kernel_rfl
@[go_sem] theorem idx5_3 (a b c d e : Int) (w : World) : (Instr.index 52 (.agg #[.int .i64 a, .int .i64 b, .int .i64 c, .int .i64 d, .int .i64 e]) (.int .i64 3)).run Tryz.prog w = .ok (.int .i64 d) w := by kernel_rfl
@[go_sem] theorem idx5_4 (a b c d e : Int) (w : World) : (Instr.index 52 (.agg #[.int .i64 a, .int .i64 b, .int .i64 c, .int .i64 d, .int .i64 e]) (.int .i64 4)).run Tryz.prog w = .ok (.int .i64 e) w := by kernel_rfl
def fK (a b c d : Int) : Nat → Int
  | 0 => 0
  | 1 => 0
  | 2 => a
  | 3 => a + b
  | 4 => a + b + c
  | _ => a + b + c + d
def fW (a b c d : Int) : Nat → Int
  | 0 => 0
  | 1 => 0
  | 2 => a
  | 3 => a + 2 * b
  | 4 => a + 2 * b + 3 * c
  | _ => a + 2 * b + 3 * c + 4 * d
theorem nettingEuler_any (l : List Bar) (ix : Int) (w : World) {v : Value} (h : SlB w v l) (hix : 0 ≤ ix ∧ ix ≤ 255) (hL : Lay w) : Calls Tryz.prog 6 #[v, .int .u8 ix] w (RV w (.bool true)) := by
  have ca := fun W (hb : Below w.heap.size w W) => awake_any W (hL.below hb)
  have r1 := fun W (hb : Below w.heap.size w W) => rnet_sl l W (h.below hb)
  have hA := h
  obtain ⟨A0, c0, rfl, hlc0, hcm0, hr0⟩ := h
  by_cases h0 : l.length = 0
  · have e : l = [] := List.eq_nil_of_length_eq_zero h0
    subst e
    clear h0
    go_enter Tryz.func6, Tryz.ntmps6
    go_wp2_with fail
    refine (ca _ (by (repeat (first | exact bl_refl | assumption | (apply bl_then; assumption) | refine bl_alloc ?_ _ | refine bl_drew ?_ | refine bl_drewN ?_ _)))).mono ?_
    rintro e w1 ⟨rfl, hb1⟩
    go_wp2_with fail
    refine (ca _ (by (repeat (first | exact bl_refl | assumption | (apply bl_then; assumption) | refine bl_alloc ?_ _ | refine bl_drew ?_ | refine bl_drewN ?_ _)))).mono ?_
    rintro e w2 ⟨rfl, hb2⟩
    go_wp2
    go_ret
    exact ⟨rfl, by (repeat (first | exact bl_refl | assumption | (apply bl_then; assumption) | refine bl_alloc ?_ _ | refine bl_drew ?_ | refine bl_drewN ?_ _))⟩
  have t0 : ((l.length : Int) == 0) = false := beq_false_of_ne (by omega)
  by_cases h1 : 24 < l.length
  · have t1 : (24 < (l.length : Int)) = True := eq_true (by omega)
    clear h1 h0
    go_enter Tryz.func6, Tryz.ntmps6
    go_wp2_with fail
    refine (ca _ (by (repeat (first | exact bl_refl | assumption | (apply bl_then; assumption) | refine bl_alloc ?_ _ | refine bl_drew ?_ | refine bl_drewN ?_ _)))).mono ?_
    rintro e w1 ⟨rfl, hb1⟩
    go_wp2_with fail
    refine (ca _ (by (repeat (first | exact bl_refl | assumption | (apply bl_then; assumption) | refine bl_alloc ?_ _ | refine bl_drew ?_ | refine bl_drewN ?_ _)))).mono ?_
    rintro e w2 ⟨rfl, hb2⟩
    go_wp2
    go_ret
    exact ⟨rfl, by (repeat (first | exact bl_refl | assumption | (apply bl_then; assumption) | refine bl_alloc ?_ _ | refine bl_drew ?_ | refine bl_drewN ?_ _))⟩
  have t1 : (24 < (l.length : Int)) = False := eq_false (by omega)
  by_cases hE : netE l = 0
  rotate_left
  · have t2 : (netE l != 0) = true := by simp [hE]
    clear h1 hE h0
    go_enter Tryz.func6, Tryz.ntmps6
    go_wp2_with fail
    refine (ca _ (by (repeat (first | exact bl_refl | assumption | (apply bl_then; assumption) | refine bl_alloc ?_ _ | refine bl_drew ?_ | refine bl_drewN ?_ _)))).mono ?_
    rintro e w1 ⟨rfl, hb1⟩
    go_wp2_with fail
    refine (r1 _ (by (repeat (first | exact bl_refl | assumption | (apply bl_then; assumption) | refine bl_alloc ?_ _ | refine bl_drew ?_ | refine bl_drewN ?_ _)))).mono ?_
    rintro e w2 ⟨rfl, hb2⟩
    go_wp2_with fail
    refine (ca _ (by (repeat (first | exact bl_refl | assumption | (apply bl_then; assumption) | refine bl_alloc ?_ _ | refine bl_drew ?_ | refine bl_drewN ?_ _)))).mono ?_
    rintro e w3 ⟨rfl, hb3⟩
    go_wp2
    go_ret
    exact ⟨rfl, by (repeat (first | exact bl_refl | assumption | (apply bl_then; assumption) | refine bl_alloc ?_ _ | refine bl_drew ?_ | refine bl_drewN ?_ _))⟩
  have hok := netE_ok hE
  have hne : l ≠ [] := fun e => h0 (by rw [e]; rfl)
  obtain ⟨kn, bn, mn, pn, hn, hN⟩ := nums_of hE
  obtain ⟨a, b, c, d, hG⟩ := legs_of hE
  have hP := parts_ok hE hne
  have m1 := fun W z (q : SlB W z l) => apiCount_any l W q
  have m2 := fun W z (q : SlB W z l) => apiLegs_any l W q
  have m3 := fun W z (q : SlB W z l) => apiParts_any l W q
  rw [hE, hN.cnt] at m1
  rw [hE, hG.legs] at m2
  rw [hE, only_ok] at m3
  rw [hE] at r1
  obtain ⟨Ls, hLs⟩ : ∃ Ls, partsL l = Ls := ⟨_, rfl⟩
  rw [hLs] at m3 hP
  have hpn : Ls.length = pn := by rw [← hLs]; exact hN.parts
  have gk := hG.sum
  have gd := hG.deg
  rw [hN.knots] at gk
  rw [hN.bars] at gd
  have la : l.length ≤ 100000 := by omega
  have hbn : l.length = bn := hN.bars
  have n1 := hN.kle
  have n2 := hN.mle
  have n3 := hN.ple
  have n4 := hN.holes
  have n5 := hN.pos
  have n6 := hP.pos
  have n7 := hP.len
  have HP := Lib.hid hP
  have HN := Lib.hid hN
  have HE := Lib.hid hE
  have HO := Lib.hid hok
  have HB := Lib.hid hbn
  have HPN := Lib.hid hpn
  have HK5 : Hid (fK a b c d 5 = (kn : Int)) := by show (a : Int) + b + c + d = kn; omega
  have HW5 : Hid (fW a b c d 5 = 2 * (bn : Int)) := by show (a : Int) + 2 * b + 3 * c + 4 * d = 2 * (bn : Int); omega
  have b1 : bn ≤ 24 := by omega
  have b2 : 1 ≤ bn := by omega
  have b3 : a ≤ 48 := by omega
  have b4 : b ≤ 48 := by omega
  have b5 : c ≤ 48 := by omega
  have b6 : d ≤ 48 := by omega
  have b7 : hn ≤ 100 := by omega
  have b8 : 1 ≤ pn := by omega
  have t3 : (hn < 0) = False := eq_false (by omega)
  have t4 : ((mn : Int) < 0) = False := eq_false (by omega)
  have t5 : ((pn : Int) < 1) = False := eq_false (by omega)
  have HT6 : Hid ((bn : Int) - kn + pn = mn + hn) := by unfold Hid; omega
  have hfl : Ls.flatten.length = bn := by rw [n7, hbn]
  have hks : kSum Ls = kn := by rw [hP.knots]; exact hN.knots
  have HFL := Lib.hid hfl
  have HKS := Lib.hid hks
  rw [hbn] at t0 t1 hA r1
  clear hE hok hne hN hG hP hLs hpn hbn n4 n6 n7 h0 h1 hfl hks hr0 hlc0 gk gd
  rw [HB.out]
  go_enter Tryz.func6, Tryz.ntmps6
  go_wp2_with fail
  refine (ca _ (by (repeat (first | exact bl_refl | assumption | (apply bl_then; assumption) | refine bl_alloc ?_ _ | refine bl_drew ?_ | refine bl_drewN ?_ _)))).mono ?_
  rintro e w1 ⟨rfl, hb1⟩
  go_wp2_with fail
  refine (r1 _ (by (repeat (first | exact bl_refl | assumption | (apply bl_then; assumption) | refine bl_alloc ?_ _ | refine bl_drew ?_ | refine bl_drewN ?_ _)))).mono ?_
  rintro e w2 ⟨rfl, hb2⟩
  go_wp2_with fail
  refine (copied_any l _ (hA.below (by (repeat (first | exact bl_refl | assumption | (apply bl_then; assumption) | refine bl_alloc ?_ _ | refine bl_drew ?_ | refine bl_drewN ?_ _)))) la).mono ?_
  rintro e w3 ⟨v3, rfl, hC3, hb3⟩
  go_wp2_with fail
  refine (m1 _ _ (hC3.rd bc_len)).mono ?_
  rintro e w4 ⟨rfl, hb4⟩
  have hbw4 : Below w.heap.size w w4 := by (repeat (first | exact bl_refl | assumption | (apply bl_then; assumption) | refine bl_alloc ?_ _ | refine bl_drew ?_ | refine bl_drewN ?_ _))
  clear hb1 hb2 hb3 hb4 hC3
  go_wp2_with (refine wpList_store_blk (Blk.new w4 39 zer5) rfl _ _ _ rfl rfl rfl (by rfl) (by kernel_rfl) (by kernel_rfl) ?_; intro w5 hCt hc5)
  have hb5 : Below w4.heap.size w4 w5 := ((Chg.of_below (bl_alloc bl_refl _)).trans hc5).below (by simp) (Nat.le_refl _)
  have hbw5 := bl_then hb5 hbw4
  clear hc5 hb5 hbw4
  go_wp2_with fail
  refine (copied_any l _ (hA.below (by (repeat (first | exact bl_refl | assumption | (apply bl_then; assumption) | refine bl_alloc ?_ _ | refine bl_drew ?_ | refine bl_drewN ?_ _)))) la).mono ?_
  rintro e w6 ⟨v6, rfl, hC6, hb6⟩
  go_wp2_with fail
  refine (m2 _ _ (hC6.rd bc_len)).mono ?_
  rintro e w7 ⟨rfl, hb7⟩
  have hCt7 := hCt.below (show Below _ _ w7 by (repeat (first | exact bl_refl | assumption | (apply bl_then; assumption) | refine bl_alloc ?_ _ | refine bl_drew ?_ | refine bl_drewN ?_ _)))
  have hbw7 : Below w.heap.size w w7 := by (repeat (first | exact bl_refl | assumption | (apply bl_then; assumption) | refine bl_alloc ?_ _ | refine bl_drew ?_ | refine bl_drewN ?_ _))
  clear hb6 hb7 hC6 hbw5 hCt
  go_wp2_with (refine wpList_store_blk (Blk.new w7 52 zer5) rfl _ _ _ rfl rfl rfl (by rfl) (by kernel_rfl) (by kernel_rfl) ?_; intro w8 hLg hc8)
  have hb8 : Below w7.heap.size w7 w8 := ((Chg.of_below (bl_alloc bl_refl _)).trans hc8).below (by simp) (Nat.le_refl _)
  have hbw8 := bl_then hb8 hbw7
  have hCt8 := hCt7.below hb8
  clear hc8 hb8 hbw7 hCt7
  go_wp2_with fail
  refine (copied_any l _ (hA.below (by (repeat (first | exact bl_refl | assumption | (apply bl_then; assumption) | refine bl_alloc ?_ _ | refine bl_drew ?_ | refine bl_drewN ?_ _)))) la).mono ?_
  rintro e w9 ⟨v9, rfl, hC9, hb9⟩
  go_wp2_with fail
  refine (m3 _ _ (hC9.rd bc_len)).mono ?_
  rintro e w10 ⟨v10, rfl, hPr, hb10⟩
  obtain ⟨A10, c10, rfl⟩ := hPr.shape
  rw [HPN.out] at hPr
  rw [HPN.out]
  have hCt10 := hCt8.below (show Below _ _ w10 by (repeat (first | exact bl_refl | assumption | (apply bl_then; assumption) | refine bl_alloc ?_ _ | refine bl_drew ?_ | refine bl_drewN ?_ _)))
  have hLg10 := hLg.below (show Below _ _ w10 by (repeat (first | exact bl_refl | assumption | (apply bl_then; assumption) | refine bl_alloc ?_ _ | refine bl_drew ?_ | refine bl_drewN ?_ _)))
  have hPr10 := hPr.base_mono (show w.heap.size ≤ w9.heap.size from Below.size (show Below w.heap.size w w9 by (repeat (first | exact bl_refl | assumption | (apply bl_then; assumption) | refine bl_alloc ?_ _ | refine bl_drew ?_ | refine bl_drewN ?_ _))))
  have hbw10 : Below w.heap.size w w10 := by (repeat (first | exact bl_refl | assumption | (apply bl_then; assumption) | refine bl_alloc ?_ _ | refine bl_drew ?_ | refine bl_drewN ?_ _))
  clear hb9 hb10 hC9 hbw8 hCt8 hLg hPr
  have fCt := hCt10.facts
  have fLg := hLg10.facts
  go_wp2
  go_loopw [11, 12, 99] (fun s11 s12 i wr => ∃ k : Nat, k ≤ 5 ∧ i = .int .i64 k ∧ s11 = .int .i64 (fK a b c d k) ∧ s12 = .int .i64 (fW a b c d k) ∧ Below w10.heap.size w10 wr) (fun _ _ i _ => 5 - (intOf i).toNat)
  case atStart => exact ⟨0, Nat.zero_le _, rfl, rfl, rfl, by (repeat (first | exact bl_refl | assumption | (apply bl_then; assumption) | refine bl_alloc ?_ _ | refine bl_drew ?_ | refine bl_drewN ?_ _))⟩
  case round =>
    clear fCt fLg
    obtain ⟨k, hk, rfl, rfl, rfl, hbr⟩ := hrel
    obtain ⟨wq, rfl⟩ : ∃ x, x = wr := ⟨_, rfl⟩
    by_cases hk5 : k < 5
    · obtain rfl | rfl | rfl | rfl | rfl : k = 0 ∨ k = 1 ∨ k = 2 ∨ k = 3 ∨ k = 4 := by omega
      · rw [show fK a b c d 0 = (0 : Int) from rfl, show fW a b c d 0 = (0 : Int) from rfl]
        have e1 : ∀ X : Int, X = (0 : Int) → Value.int .i64 X = Value.int .i64 (fK a b c d 1) := fun X h => by rw [h]; rfl
        have e2 : ∀ X : Int, X = (0 : Int) → Value.int .i64 X = Value.int .i64 (fW a b c d 1) := fun X h => by rw [h]; rfl
        have E1 := Lib.hid e1
        have E2 := Lib.hid e2
        clear e1 e2
        go_wp2
        go_roundw
        case rel => exact ⟨1, by omega, rfl, E1.out _ (by omega), E2.out _ (by omega), hbr⟩
        case measure => simp [intOf]
      · rw [show fK a b c d 1 = (0 : Int) from rfl, show fW a b c d 1 = (0 : Int) from rfl]
        have e1 : ∀ X : Int, X = (a : Int) → Value.int .i64 X = Value.int .i64 (fK a b c d 2) := fun X h => by rw [h]; rfl
        have e2 : ∀ X : Int, X = (a : Int) → Value.int .i64 X = Value.int .i64 (fW a b c d 2) := fun X h => by rw [h]; rfl
        have E1 := Lib.hid e1
        have E2 := Lib.hid e2
        clear e1 e2
        go_wp2
        go_roundw
        case rel => exact ⟨2, by omega, rfl, E1.out _ (by omega), E2.out _ (by omega), hbr⟩
        case measure => simp [intOf]
      · rw [show fK a b c d 2 = (a : Int) from rfl, show fW a b c d 2 = (a : Int) from rfl]
        have e1 : ∀ X : Int, X = (a : Int) + b → Value.int .i64 X = Value.int .i64 (fK a b c d 3) := fun X h => by rw [h]; rfl
        have e2 : ∀ X : Int, X = (a : Int) + 2 * b → Value.int .i64 X = Value.int .i64 (fW a b c d 3) := fun X h => by rw [h]; rfl
        have E1 := Lib.hid e1
        have E2 := Lib.hid e2
        clear e1 e2
        go_wp2
        go_roundw
        case rel => exact ⟨3, by omega, rfl, E1.out _ (by omega), E2.out _ (by omega), hbr⟩
        case measure => simp [intOf]
      · rw [show fK a b c d 3 = (a : Int) + b from rfl, show fW a b c d 3 = (a : Int) + 2 * b from rfl]
        have e1 : ∀ X : Int, X = (a : Int) + b + c → Value.int .i64 X = Value.int .i64 (fK a b c d 4) := fun X h => by rw [h]; rfl
        have e2 : ∀ X : Int, X = (a : Int) + 2 * b + 3 * c → Value.int .i64 X = Value.int .i64 (fW a b c d 4) := fun X h => by rw [h]; rfl
        have E1 := Lib.hid e1
        have E2 := Lib.hid e2
        clear e1 e2
        go_wp2
        go_roundw
        case rel => exact ⟨4, by omega, rfl, E1.out _ (by omega), E2.out _ (by omega), hbr⟩
        case measure => simp [intOf]
      · rw [show fK a b c d 4 = (a : Int) + b + c from rfl, show fW a b c d 4 = (a : Int) + 2 * b + 3 * c from rfl]
        have e1 : ∀ X : Int, X = (a : Int) + b + c + d → Value.int .i64 X = Value.int .i64 (fK a b c d 5) := fun X h => by rw [h]; rfl
        have e2 : ∀ X : Int, X = (a : Int) + 2 * b + 3 * c + 4 * d → Value.int .i64 X = Value.int .i64 (fW a b c d 5) := fun X h => by rw [h]; rfl
        have E1 := Lib.hid e1
        have E2 := Lib.hid e2
        clear e1 e2
        go_wp2
        go_roundw
        case rel => exact ⟨5, by omega, rfl, E1.out _ (by omega), E2.out _ (by omega), hbr⟩
        case measure => simp [intOf]
    · obtain rfl : k = 5 := by omega
      rw [HK5.out, HW5.out, show ((5 : Nat) : Int) = 5 from rfl]
      have hCtq := hCt10.below hbr
      have hLgq := hLg10.below hbr
      have hPrq := hPr10.below hbr
      have hbwq := bl_then hbr hbw10
      clear hCt10 hLg10 hPr10 hbw10 hbr hk hk5
      have fCt := hCtq.facts
      have fLg := hLgq.facts
      have t6 : ((bn : Int) - kn + pn != mn + hn) = false := by simp [HT6.out]
      go_wp2
      clear fCt fLg
      go_loopw [15, 16, 152] (fun s15 s16 i wr => ∃ k : Nat, k ≤ pn ∧ i = .int .i64 k ∧ s16 = .int .i64 ((kSum (Ls.take k) : Nat) : Int) ∧ OwB wq.heap.size wr s15 (Ls.take k).flatten ∧ Below wq.heap.size wq wr) (fun _ _ i _ => pn - (intOf i).toNat)
      case atStart => exact ⟨0, Nat.zero_le _, rfl, rfl, Own.nil_, by (repeat (first | exact bl_refl | assumption | (apply bl_then; assumption) | refine bl_alloc ?_ _ | refine bl_drew ?_ | refine bl_drewN ?_ _))⟩
      case round =>
        obtain ⟨k, hk, rfl, rfl, hO, hbr⟩ := hrel
        obtain ⟨wk, rfl⟩ : ∃ x, x = wr := ⟨_, rfl⟩
        have hks := kSum_le (Ls := Ls) k
        have hfs := flat_take_le (Ls := Ls) k
        rw [HKS.out] at hks
        rw [HFL.out] at hfs
        by_cases hkp : k < pn
        · have hkl : k < Ls.length := by rw [HPN.out]; exact hkp
          obtain ⟨b', off', A1, c1, rfl, hb', z0, hrow⟩ := (hPrq.below hbr).get HPN.out hkl
          obtain ⟨p1, p2, p3⟩ := HP.out.net _ (List.getElem_mem hkl)
          have HS1 := Lib.hid (kSum_take hkl)
          have HF1 := Lib.hid (flat_take hkl)
          obtain ⟨P, hPP⟩ : ∃ P, Ls[k] = P := ⟨_, rfl⟩
          have hup : ∀ j, k = j + 1 → ∃ (hj : j < Ls.length), ∃ a b, Ls[j].head? = some a ∧ P.head? = some b ∧ bltP a b := fun j hj => ⟨by omega, by rw [← hPP]; exact HP.out.up j k (by omega) hkl (by omega)⟩
          have HUP := Lib.hid hup
          rw [hPP] at z0 hrow p1 p2 p3 HS1 HF1
          have hSP : SlB wk (.slice A1 P.length c1) P := hrow.rd bc_len
          obtain ⟨A1', c1', he1, hlc1, hcm1, hr1⟩ := hrow.rd bc_len
          obtain ⟨rfl, rfl⟩ : A1 = A1' ∧ c1 = c1' := by simpa using he1
          have hP0 : 0 < P.length := List.length_pos_iff.2 p2
          obtain ⟨b1, o1, rfl, hb1, _, _, _⟩ := hr1.bar hP0
          have cn := fun W z (q : SlB W z P) => rnet_sl P W q
          have ck := fun W z (q : SlB W z P) => apiKnots_any P W q
          rw [p1] at cn ck
          rw [only_ok] at ck
          have hkk := holeK_len P
          have hPb : P.length ≤ 24 := by have := HB.out; omega
          have lP : P.length ≤ 100000 := by omega
          have t7 : ((P.length : Int) == 0) = false := beq_false_of_ne (by omega)
          obtain ⟨ks, hks'⟩ : ∃ n, kSum (Ls.take k) = n := ⟨_, rfl⟩
          obtain ⟨hq, hhq⟩ : ∃ n, (holeK P).length = n := ⟨_, rfl⟩
          have HHQ := Lib.hid hhq
          rw [hks', hhq] at HS1
          rw [hks'] at hks ⊢
          rw [hhq] at hkk
          clear hup hPP he1 hlc1 p1 p2 p3 hks' hhq hrow
          by_cases hk0 : k = 0
          · subst hk0
            clear HUP
            rw [show ((0 : Nat) : Int) = 0 from rfl]
            simp only [Nat.add_zero] at z0
            go_wp2_with fail
            refine (copied_any P _ (hSP.below (by (repeat (first | exact bl_refl | assumption | (apply bl_then; assumption) | refine bl_alloc ?_ _ | refine bl_drew ?_ | refine bl_drewN ?_ _)))) lP).mono ?_
            rintro e w11 ⟨v11, rfl, hC11, hb11⟩
            go_wp2_with fail
            refine (ck _ _ (hC11.rd bc_len)).mono ?_
            rintro e w12 ⟨v12, rfl, hK12, hb12⟩
            obtain ⟨A12, c12, rfl⟩ := hK12.shape
            rw [HHQ.out]
            go_wp2
            refine wp_region_ords [0, 1, 2, 3, 4, 5, 6, 7, 8] [(9, false), (10, false), (11, false), (12, false), (13, false), (14, false), (15, false), (16, true), (17, true), (18, true), (19, true), (20, true), (21, true), (22, true), (23, false), (24, false), (25, false)] [26, 27, 28, 29] (by kernel_rfl) (by kernel_rfl) (fun d _ _ _ _ h => by cases d <;> exact h) ?_
            simp only [List.map_cons, List.map_nil, List.getD_cons_zero, List.getD_cons_succ]
            repeat (go_big_quiet_step (fail))
            refine wpQuiet_nil ?_
            refine wpMid_run rfl (fun K hK => ?_)
            go_simp
            refine (cn _ _ (hSP.below (by (repeat (first | exact bl_refl | assumption | (apply bl_then; assumption) | refine bl_alloc ?_ _ | refine bl_drew ?_ | refine bl_drewN ?_ _))))).mono ?_
            rintro e w13 ⟨rfl, hb13⟩
            refine hK _ _ (by (repeat (first | exact bl_refl | assumption | (apply bl_then; assumption) | refine bl_alloc ?_ _ | refine bl_drew ?_ | refine bl_drewN ?_ _))) ?_
            clear hK K
            refine wpMid_run rfl (fun K hK => ?_)
            go_simp
            refine hK _ _ (by (repeat (first | exact bl_refl | assumption | (apply bl_then; assumption) | refine bl_alloc ?_ _ | refine bl_drew ?_ | refine bl_drewN ?_ _))) ?_
            clear hK K
            refine wpMid_run rfl (fun K hK => ?_)
            go_simp
            refine hK _ _ (by (repeat (first | exact bl_refl | assumption | (apply bl_then; assumption) | refine bl_alloc ?_ _ | refine bl_drew ?_ | refine bl_drewN ?_ _))) ?_
            clear hK K
            refine wpMid_run rfl (fun K hK => ?_)
            go_simp
            refine hK _ _ (by (repeat (first | exact bl_refl | assumption | (apply bl_then; assumption) | refine bl_alloc ?_ _ | refine bl_drew ?_ | refine bl_drewN ?_ _))) ?_
            clear hK K
            refine wpMid_run rfl (fun K hK => ?_)
            go_simp
            refine hK _ _ (by (repeat (first | exact bl_refl | assumption | (apply bl_then; assumption) | refine bl_alloc ?_ _ | refine bl_drew ?_ | refine bl_drewN ?_ _))) ?_
            clear hK K
            refine wpMid_run rfl (fun K hK => ?_)
            go_simp
            refine hK _ _ (by (repeat (first | exact bl_refl | assumption | (apply bl_then; assumption) | refine bl_alloc ?_ _ | refine bl_drew ?_ | refine bl_drewN ?_ _))) ?_
            clear hK K
            refine wpMid_run rfl (fun K hK => ?_)
            go_simp
            refine hK _ _ (by (repeat (first | exact bl_refl | assumption | (apply bl_then; assumption) | refine bl_alloc ?_ _ | refine bl_drew ?_ | refine bl_drewN ?_ _))) ?_
            clear hK K
            refine wpMid_skipT (by kernel_rfl) ?_
            intro K hK
            simp only [Act.put, List.setIfInBounds_toArray, List.set_cons_zero, List.set_cons_succ]
            refine hK _ ?_
            clear hK K
            refine wpMid_skipT (by kernel_rfl) ?_
            intro K hK
            simp only [Act.put, List.setIfInBounds_toArray, List.set_cons_zero, List.set_cons_succ]
            refine hK _ ?_
            clear hK K
            refine wpMid_skipT (by kernel_rfl) ?_
            intro K hK
            simp only [Act.put, List.setIfInBounds_toArray, List.set_cons_zero, List.set_cons_succ]
            refine hK _ ?_
            clear hK K
            refine wpMid_skipT (by kernel_rfl) ?_
            intro K hK
            simp only [Act.put, List.setIfInBounds_toArray, List.set_cons_zero, List.set_cons_succ]
            refine hK _ ?_
            clear hK K
            refine wpMid_skipT (by kernel_rfl) ?_
            intro K hK
            simp only [Act.put, List.setIfInBounds_toArray, List.set_cons_zero, List.set_cons_succ]
            refine hK _ ?_
            clear hK K
            refine wpMid_skipT (by kernel_rfl) ?_
            intro K hK
            simp only [Act.put, List.setIfInBounds_toArray, List.set_cons_zero, List.set_cons_succ]
            refine hK _ ?_
            clear hK K
            refine wpMid_skipT (by kernel_rfl) ?_
            intro K hK
            simp only [Act.put, List.setIfInBounds_toArray, List.set_cons_zero, List.set_cons_succ]
            refine hK _ ?_
            clear hK K
            refine wpMid_skipF (by kernel_rfl) ?_
            intro K hK
            simp only [Act.put, List.setIfInBounds_toArray, List.set_cons_zero, List.set_cons_succ]
            refine hK _ ?_
            clear hK K
            refine wpMid_skipF (by kernel_rfl) ?_
            intro K hK
            simp only [Act.put, List.setIfInBounds_toArray, List.set_cons_zero, List.set_cons_succ]
            refine hK _ ?_
            clear hK K
            refine wpMid_skipF (by kernel_rfl) ?_
            intro K hK
            simp only [Act.put, List.setIfInBounds_toArray, List.set_cons_zero, List.set_cons_succ]
            refine hK _ ?_
            clear hK K
            refine wpMid_nil ?_
            have hO14 := hO.below (show Below wk.heap.size wk w13 by (repeat (first | exact bl_refl | assumption | (apply bl_then; assumption) | refine bl_alloc ?_ _ | refine bl_drew ?_ | refine bl_drewN ?_ _)))
            go_wp2_with (at_builtin; refine wpList_appBS hO14 (hSP.below (show Below wk.heap.size wk w13 by (repeat (first | exact bl_refl | assumption | (apply bl_then; assumption) | refine bl_alloc ?_ _ | refine bl_drew ?_ | refine bl_drewN ?_ _)))) rfl _ _ rfl rfl rfl (by omega) (Below.size (show Below wq.heap.size wq w13 by (repeat (first | exact bl_refl | assumption | (apply bl_then; assumption) | refine bl_alloc ?_ _ | refine bl_drew ?_ | refine bl_drewN ?_ _)))) ?_; intro v15 w15 hO15 hg15)
            have hb15 := own_step hO14 hg15 (by (repeat (first | exact bl_refl | assumption | (apply bl_then; assumption) | refine bl_alloc ?_ _ | refine bl_drew ?_ | refine bl_drewN ?_ _)))
            clear hg15
            go_wp2
            go_roundw
            case rel => exact ⟨0 + 1, by omega, rfl, by rw [HS1.out]; go_num, by rw [HF1.out]; exact hO15, hb15⟩
            case measure => simp [intOf]; omega
          · obtain ⟨j, rfl⟩ : ∃ j, k = j + 1 := ⟨k - 1, by omega⟩
            obtain ⟨hj, a', bb, hha, hhb, hlt⟩ := HUP.out j rfl
            obtain ⟨b2, o2, A2, c2, e2, hb2, y0, hrow2⟩ := (hPrq.below hbr).get HPN.out hj
            obtain ⟨rfl, rfl⟩ : b' = b2 ∧ off' = o2 := by simpa using e2
            obtain ⟨Q, hQ⟩ : ∃ Q, Ls[j] = Q := ⟨_, rfl⟩
            rw [hQ] at hha y0 hrow2
            obtain ⟨A2', c2', he2, _, _, hr2⟩ := hrow2.rd bc_len
            obtain ⟨rfl, rfl⟩ : A2 = A2' ∧ c2 = c2' := by simpa using he2
            have hQ0 : 0 < Q.length := by cases Q with | nil => simp at hha | cons x r => simp
            have hQe : Q[0] = a' := by cases Q with | nil => simp at hha | cons x r => simpa using hha
            have hPe : P[0] = bb := by cases P with | nil => simp at hhb | cons x r => simpa using hhb
            obtain ⟨b3, o3, rfl, hb3, _, _, _⟩ := hr2.bar hQ0
            obtain ⟨qx, qy, qs⟩ := a'
            obtain ⟨px, py, ps⟩ := bb
            have HQe := Lib.hid hQe
            have HPe := Lib.hid hPe
            have hlt' : barLt qx qy qs px py ps = true := hlt
            have HG : Hid (∀ W, Below wk.heap.size wk W → W.cell? ⟨b', off' + j, none⟩ = some (.slice (some ⟨b3, o3, none⟩) Q.length c2)) := fun W hb => (hb.cell hb').trans y0
            have t8 : (0 < (j : Int) + 1) = True := eq_true (by omega)
            have hjp : j < pn := by omega
            clear hk0 hha hhb hlt hQe hPe e2 he2 hQ hrow2 y0
            go_wp2_with fail
            refine (copied_any P _ (hSP.below (by (repeat (first | exact bl_refl | assumption | (apply bl_then; assumption) | refine bl_alloc ?_ _ | refine bl_drew ?_ | refine bl_drewN ?_ _)))) lP).mono ?_
            rintro e w11 ⟨v11, rfl, hC11, hb11⟩
            go_wp2_with fail
            refine (ck _ _ (hC11.rd bc_len)).mono ?_
            rintro e w12 ⟨v12, rfl, hK12, hb12⟩
            obtain ⟨A12, c12, rfl⟩ := hK12.shape
            rw [HHQ.out]
            go_wp2
            have x1 := HG.out _ (show Below wk.heap.size wk w12 by (repeat (first | exact bl_refl | assumption | (apply bl_then; assumption) | refine bl_alloc ?_ _ | refine bl_drew ?_ | refine bl_drewN ?_ _)))
            have x0 : b' < w12.heap.size := Nat.lt_of_lt_of_le hb' (Below.size (show Below wk.heap.size wk w12 by (repeat (first | exact bl_refl | assumption | (apply bl_then; assumption) | refine bl_alloc ?_ _ | refine bl_drew ?_ | refine bl_drewN ?_ _))))
            have x2 := (hr2.below (show Below wk.heap.size wk w12 by (repeat (first | exact bl_refl | assumption | (apply bl_then; assumption) | refine bl_alloc ?_ _ | refine bl_drew ?_ | refine bl_drewN ?_ _)))).barAt hQ0
            rw [HQe.out] at x2
            have x3 := (hr1.below (show Below wk.heap.size wk w12 by (repeat (first | exact bl_refl | assumption | (apply bl_then; assumption) | refine bl_alloc ?_ _ | refine bl_drew ?_ | refine bl_drewN ?_ _)))).barAt hP0
            rw [HPe.out] at x3
            simp only [Nat.zero_mul, Nat.add_zero] at x2 x3
            refine wp_region_ords [0, 1, 2, 3, 4, 5, 6, 7, 8] [(9, false), (10, false), (11, false), (12, false), (13, false), (14, false), (15, false), (16, true), (17, true), (18, true), (19, true), (20, true), (21, true), (22, true), (23, false), (24, false), (25, false)] [26, 27, 28, 29] (by kernel_rfl) (by kernel_rfl) (fun d _ _ _ _ h => by cases d <;> exact h) ?_
            simp only [List.map_cons, List.map_nil, List.getD_cons_zero, List.getD_cons_succ]
            repeat (go_big_quiet_step (fail))
            refine wpQuiet_nil ?_
            refine wpMid_run rfl (fun K hK => ?_)
            go_simp
            refine (cn _ _ (hSP.below (by (repeat (first | exact bl_refl | assumption | (apply bl_then; assumption) | refine bl_alloc ?_ _ | refine bl_drew ?_ | refine bl_drewN ?_ _))))).mono ?_
            rintro e w13 ⟨rfl, hb13⟩
            refine hK _ _ (by (repeat (first | exact bl_refl | assumption | (apply bl_then; assumption) | refine bl_alloc ?_ _ | refine bl_drew ?_ | refine bl_drewN ?_ _))) ?_
            clear hK K
            have y1 := HG.out _ (show Below wk.heap.size wk w13 by (repeat (first | exact bl_refl | assumption | (apply bl_then; assumption) | refine bl_alloc ?_ _ | refine bl_drew ?_ | refine bl_drewN ?_ _)))
            have y0 : b' < w13.heap.size := Nat.lt_of_lt_of_le hb' (Below.size (show Below wk.heap.size wk w13 by (repeat (first | exact bl_refl | assumption | (apply bl_then; assumption) | refine bl_alloc ?_ _ | refine bl_drew ?_ | refine bl_drewN ?_ _))))
            have y2 := (hr2.below (show Below wk.heap.size wk w13 by (repeat (first | exact bl_refl | assumption | (apply bl_then; assumption) | refine bl_alloc ?_ _ | refine bl_drew ?_ | refine bl_drewN ?_ _)))).barAt hQ0
            rw [HQe.out] at y2
            have y3 := (hr1.below (show Below wk.heap.size wk w13 by (repeat (first | exact bl_refl | assumption | (apply bl_then; assumption) | refine bl_alloc ?_ _ | refine bl_drew ?_ | refine bl_drewN ?_ _)))).barAt hP0
            rw [HPe.out] at y3
            simp only [Nat.zero_mul, Nat.add_zero] at y2 y3
            refine wpMid_run rfl (fun K hK => ?_)
            go_simp
            refine hK _ _ (by (repeat (first | exact bl_refl | assumption | (apply bl_then; assumption) | refine bl_alloc ?_ _ | refine bl_drew ?_ | refine bl_drewN ?_ _))) ?_
            clear hK K
            refine wpMid_run rfl (fun K hK => ?_)
            go_simp
            refine hK _ _ (by (repeat (first | exact bl_refl | assumption | (apply bl_then; assumption) | refine bl_alloc ?_ _ | refine bl_drew ?_ | refine bl_drewN ?_ _))) ?_
            clear hK K
            refine wpMid_run rfl (fun K hK => ?_)
            go_simp
            refine hK _ _ (by (repeat (first | exact bl_refl | assumption | (apply bl_then; assumption) | refine bl_alloc ?_ _ | refine bl_drew ?_ | refine bl_drewN ?_ _))) ?_
            clear hK K
            refine wpMid_run rfl (fun K hK => ?_)
            go_simp
            refine hK _ _ (by (repeat (first | exact bl_refl | assumption | (apply bl_then; assumption) | refine bl_alloc ?_ _ | refine bl_drew ?_ | refine bl_drewN ?_ _))) ?_
            clear hK K
            refine wpMid_run rfl (fun K hK => ?_)
            go_simp
            refine hK _ _ (by (repeat (first | exact bl_refl | assumption | (apply bl_then; assumption) | refine bl_alloc ?_ _ | refine bl_drew ?_ | refine bl_drewN ?_ _))) ?_
            clear hK K
            refine wpMid_run rfl (fun K hK => ?_)
            go_simp
            refine hK _ _ (by (repeat (first | exact bl_refl | assumption | (apply bl_then; assumption) | refine bl_alloc ?_ _ | refine bl_drew ?_ | refine bl_drewN ?_ _))) ?_
            clear hK K
            refine wpMid_take rfl ?_
            intro K hK
            go_big_quiet_op
            go_big_quiet_on
            refine wpMid_take rfl ?_
            intro K hK
            go_big_quiet_op
            go_big_quiet_on
            refine wpMid_take rfl ?_
            intro K hK
            go_big_quiet_op
            go_big_quiet_on
            refine wpMid_take rfl ?_
            intro K hK
            go_big_quiet_op
            go_big_quiet_on
            refine wpMid_take rfl ?_
            intro K hK
            go_big_quiet_op
            go_big_quiet_on
            refine wpMid_take rfl ?_
            intro K hK
            go_big_quiet_op
            go_big_quiet_on
            refine wpMid_take rfl ?_
            intro K hK
            go_big_quiet_op
            go_big_quiet_on
            refine wpMid_run rfl (fun K hK => ?_)
            go_simp
            refine hK _ _ (by (repeat (first | exact bl_refl | assumption | (apply bl_then; assumption) | refine bl_alloc ?_ _ | refine bl_drew ?_ | refine bl_drewN ?_ _))) ?_
            clear hK K
            refine wpMid_run rfl (fun K hK => ?_)
            go_simp
            refine hK _ _ (by (repeat (first | exact bl_refl | assumption | (apply bl_then; assumption) | refine bl_alloc ?_ _ | refine bl_drew ?_ | refine bl_drewN ?_ _))) ?_
            clear hK K
            refine wpMid_run rfl (fun K hK => ?_)
            go_simp
            refine hK _ _ (by (repeat (first | exact bl_refl | assumption | (apply bl_then; assumption) | refine bl_alloc ?_ _ | refine bl_drew ?_ | refine bl_drewN ?_ _))) ?_
            clear hK K
            refine wpMid_nil ?_
            go_wp2_with fail
            refine (rless_any _ _ _ _ _ _ _).mono ?_
            rintro e w14 ⟨rfl, hb14⟩
            rw [hlt']
            have hO14 := hO.below (show Below wk.heap.size wk w14 by (repeat (first | exact bl_refl | assumption | (apply bl_then; assumption) | refine bl_alloc ?_ _ | refine bl_drew ?_ | refine bl_drewN ?_ _)))
            go_wp2_with (at_builtin; refine wpList_appBS hO14 (hSP.below (show Below wk.heap.size wk w14 by (repeat (first | exact bl_refl | assumption | (apply bl_then; assumption) | refine bl_alloc ?_ _ | refine bl_drew ?_ | refine bl_drewN ?_ _)))) rfl _ _ rfl rfl rfl (by omega) (Below.size (show Below wq.heap.size wq w14 by (repeat (first | exact bl_refl | assumption | (apply bl_then; assumption) | refine bl_alloc ?_ _ | refine bl_drew ?_ | refine bl_drewN ?_ _)))) ?_; intro v15 w15 hO15 hg15)
            have hb15 := own_step hO14 hg15 (by (repeat (first | exact bl_refl | assumption | (apply bl_then; assumption) | refine bl_alloc ?_ _ | refine bl_drew ?_ | refine bl_drewN ?_ _)))
            clear hg15
            go_wp2
            go_roundw
            case rel => exact ⟨j + 1 + 1, by omega, by go_num, by rw [HS1.out]; go_num, by rw [HF1.out]; exact hO15, hb15⟩
            case measure => simp [intOf]; omega
        · obtain rfl : k = pn := by omega
          have HT : Hid (Ls.take k = Ls) := List.take_of_length_le (by rw [HPN.out]; omega)
          rw [HT.out] at hO hks hfs ⊢
          rw [HKS.out] at hks ⊢
          obtain ⟨As, cs, rfl⟩ := hO.shape
          rw [HFL.out] at hO ⊢
          have la : l.length ≤ 100000 := by rw [HB.out]; omega
          have s1 := fun W z (q : SlB W z Ls.flatten) => rsorted_any Ls.flatten W q (by rw [HFL.out]; omega)
          rw [HP.out.set] at s1
          have s2 := fun W z z' (q : SlB W z l) (q' : SlB W z' l) => aSame l l W q q' rfl
          have hCtk := hCtq.below hbr
          have hOk := hO.rd bc_len
          have hbwk := bl_then hbr hbwq
          clear hkp hk HT hO hPrq hks hfs HKS HFL HP HPN hLgq hbr hCtq hbwq
          have fhCt := hCtk.facts
          go_wp2_with fail
          refine (s1 _ _ (hOk.below (by (repeat (first | exact bl_refl | assumption | (apply bl_then; assumption) | refine bl_alloc ?_ _ | refine bl_drew ?_ | refine bl_drewN ?_ _))))).mono ?_
          rintro e w13 ⟨v13, rfl, hS13, hb13⟩
          replace hCtk := hCtk.below (show Below _ _ w13 by (repeat (first | exact bl_refl | assumption | (apply bl_then; assumption) | refine bl_alloc ?_ _ | refine bl_drew ?_ | refine bl_drewN ?_ _)))
          replace fhCtk := hCtk.facts
          go_wp2_with fail
          refine (s2 _ _ _ ((hS13.rd bc_len).below (by (repeat (first | exact bl_refl | assumption | (apply bl_then; assumption) | refine bl_alloc ?_ _ | refine bl_drew ?_ | refine bl_drewN ?_ _)))) (hA.below (by (repeat (first | exact bl_refl | assumption | (apply bl_then; assumption) | refine bl_alloc ?_ _ | refine bl_drew ?_ | refine bl_drewN ?_ _))))).mono ?_
          rintro e w14 ⟨rfl, hb14⟩
          have hCt14 := hCtk.below (show Below w13.heap.size w13 w14 by (repeat (first | exact bl_refl | assumption | (apply bl_then; assumption) | refine bl_alloc ?_ _ | refine bl_drew ?_ | refine bl_drewN ?_ _)))
          have hbw14 : Below w.heap.size w w14 := by (repeat (first | exact bl_refl | assumption | (apply bl_then; assumption) | refine bl_alloc ?_ _ | refine bl_drew ?_ | refine bl_drewN ?_ _))
          clear hb13 hb14 hS13 hOk hCtk hbwk fhCt
          obtain ⟨t, ht⟩ : ∃ t : Nat, ix.tmod (bn : Int) = (t : Int) := ⟨(ix.tmod (bn : Int)).toNat, by have := Int.tmod_nonneg (bn : Int) hix.1; omega⟩
          have htb : t < bn := by have := Int.tmod_lt_of_pos ix (show (0 : Int) < (bn : Int) by omega); omega
          have htl : t < l.length := by rw [HB.out]; exact htb
          obtain ⟨A0', c0', he0, _, _, hr14⟩ := hA.below hbw14
          obtain ⟨rfl, hzz, rfl⟩ : A0 = A0' ∧ bn = l.length ∧ c0 = c0' := by simpa using he0
          clear hzz
          obtain ⟨bq, oq, rfl, hbq, e0, e1, e2⟩ := hr14.bar htl
          obtain ⟨⟨bx, bY, bs⟩, hx⟩ : ∃ z, l[t] = z := ⟨_, rfl⟩
          rw [hx] at e0 e1 e2
          simp only at e0 e1 e2
          have hbm : (bx, bY, bs) ∈ l := hx ▸ List.getElem_mem htl
          have hEb : netE [(bx, bY, bs)] = 0 := netE_sub HE.out (List.pairwise_singleton _ _) (by intro z hz; obtain rfl := List.mem_singleton.1 hz; exact hbm)
          have hEw : netE (wout l [(bx, bY, bs)]) = 0 := netE_wout HE.out
          obtain ⟨kn', bn', mn', pn', hn', hN'⟩ := nums_of hEw
          obtain ⟨hr1, hr2⟩ := rank_of HE.out hbm HN.out hN'
          have c1 := fun W z (q : SlB W z (wout l [(bx, bY, bs)])) => apiCount_any _ W q
          rw [hEw, hN'.cnt] at c1
          have m1' := fun W z z' (q : SlB W z l) (q' : SlB W z' [(bx, bY, bs)]) => aMinus l _ W q q' HE.out hEb
          have q1 := hN'.kle
          have q2 := hN'.mle
          have q3 := hN'.ple
          have q4 := hN'.holes
          have q5 := hN'.pos
          have HBN := Lib.hid hN'.bars
          have t11 : ((bn' : Int) != (bn : Int) - 1) = false := by rw [bne_eq_false_iff_eq]; omega
          have q6 : bn' ≤ 23 := by omega
          obtain ⟨R, hR⟩ : ∃ R, wout l [(bx, bY, bs)] = R := ⟨_, rfl⟩
          rw [hR] at c1 m1' HBN
          have lR : R.length ≤ 100000 := by rw [HBN.out]; omega
          have z1 : hn' ≤ 100 := by omega
          clear hr1 q4
          clear hx hbm hEb hEw hN' hR he0 HE HN htl hr14
          have hN0 := Blk.new w14 60 #[.int .i64 bx, .int .i64 bY, .int .i64 bs]
          have hCta := hCt14.alloc (.cells #[.int .i64 bx, .int .i64 bY, .int .i64 bs] 60)
          go_upto_region 32 with fail
          obtain ⟨w15, hw15⟩ : ∃ X, w14.alloc (.cells #[.int .i64 bx, .int .i64 bY, .int .i64 bs] 60) = X := ⟨_, rfl⟩
          have hb15 : Below w14.heap.size w14 w15 := by rw [← hw15]; exact bl_alloc bl_refl _
          rw [hw15] at hN0 hCta ⊢
          have hbw15 := bl_then hb15 hbw14
          have fhN0 := hN0.facts
          clear hw15 e0 e1 e2 hCt14 hb15 hbw14
          go_cut [22, 23] from 227 (fun s22 s23 wx => s23 = .int .i64 0 ∧ SlB wx s22 R ∧ Below w15.heap.size w15 wx)
          case first =>
            refine wp_region_tree [0, 2] (.alt (.br 1 (.alt (.br 3 (.alt (.br 4 (.take 5 (.take 6 (.take 7 (.take 8 (.fin))))) (.stop))) (.stop))) (.br 3 (.alt (.br 1 (.alt (.br 4 (.take 5 (.take 6 (.take 7 (.take 8 (.fin))))) (.stop))) (.stop))) (.stop)))) [9] (by kernel_rfl) (by kernel_rfl) (fun d _ _ _ _ h => by cases d <;> exact h) ?_
            simp only [List.map_cons, List.map_nil, List.getD_cons_zero, List.getD_cons_succ]
            repeat (go_big_quiet_step (fail))
            refine wpQuiet_nil ?_
            refine wpTree_alt (wpTree_br rfl rfl ?_ (wpTree_br rfl rfl ?_ wpTree_stop))
            · intro K hK
              go_simp
              refine (copied_any l _ (hA.below (by (repeat (first | exact bl_refl | assumption | (apply bl_then; assumption) | refine bl_alloc ?_ _ | refine bl_drew ?_ | refine bl_drewN ?_ _)))) la).mono ?_
              rintro e w17 ⟨v17, rfl, hC17, hb17⟩
              refine hK _ _ (by (repeat (first | exact bl_refl | assumption | (apply bl_then; assumption) | refine bl_alloc ?_ _ | refine bl_drew ?_ | refine bl_drewN ?_ _))) ?_
              clear hK K
              refine wpTree_alt (wpTree_br rfl rfl ?_ wpTree_stop)
              have hS1 := Sl.one_bar w17 bx bY bs
              intro K hK
              go_simp
              refine hK _ _ (by (repeat (first | exact bl_refl | assumption | (apply bl_then; assumption) | refine bl_alloc ?_ _ | refine bl_drew ?_ | refine bl_drewN ?_ _))) ?_
              clear hK K
              refine wpTree_alt (wpTree_br rfl rfl ?_ wpTree_stop)
              intro K hK
              go_simp
              refine (m1' _ _ _ ((hC17.rd bc_len).below (by (repeat (first | exact bl_refl | assumption | (apply bl_then; assumption) | refine bl_alloc ?_ _ | refine bl_drew ?_ | refine bl_drewN ?_ _)))) hS1).mono ?_
              rintro e w18 ⟨v18, rfl, hO18, hb18⟩
              refine hK _ _ (by (repeat (first | exact bl_refl | assumption | (apply bl_then; assumption) | refine bl_alloc ?_ _ | refine bl_drew ?_ | refine bl_drewN ?_ _))) ?_
              clear hK K
              iterate 4 (refine wpTree_take rfl rfl ?_; intro K hK; simp only [Array.getD_eq_getD_getElem?, List.getElem?_toArray, List.getElem?_cons_succ, List.getElem?_cons_zero, Option.getD_some]; go_big_quiet_op; go_big_quiet_on)
              refine wpTree_fin ?_
              go_wp2_with fail
              go_meet
              case rel => exact ⟨rfl, hO18.rd bc_len, by (repeat (first | exact bl_refl | assumption | (apply bl_then; assumption) | refine bl_alloc ?_ _ | refine bl_drew ?_ | refine bl_drewN ?_ _))⟩
            · have hS1 := Sl.one_bar w15.drew bx bY bs
              intro K hK
              go_simp
              refine hK _ _ (by (repeat (first | exact bl_refl | assumption | (apply bl_then; assumption) | refine bl_alloc ?_ _ | refine bl_drew ?_ | refine bl_drewN ?_ _))) ?_
              clear hK K
              refine wpTree_alt (wpTree_br rfl rfl ?_ wpTree_stop)
              intro K hK
              go_simp
              refine (copied_any l _ (hA.below (by (repeat (first | exact bl_refl | assumption | (apply bl_then; assumption) | refine bl_alloc ?_ _ | refine bl_drew ?_ | refine bl_drewN ?_ _)))) la).mono ?_
              rintro e w17 ⟨v17, rfl, hC17, hb17⟩
              refine hK _ _ (by (repeat (first | exact bl_refl | assumption | (apply bl_then; assumption) | refine bl_alloc ?_ _ | refine bl_drew ?_ | refine bl_drewN ?_ _))) ?_
              clear hK K
              refine wpTree_alt (wpTree_br rfl rfl ?_ wpTree_stop)
              intro K hK
              go_simp
              refine (m1' _ _ _ (hC17.rd bc_len) (hS1.below (by (repeat (first | exact bl_refl | assumption | (apply bl_then; assumption) | refine bl_alloc ?_ _ | refine bl_drew ?_ | refine bl_drewN ?_ _))))).mono ?_
              rintro e w18 ⟨v18, rfl, hO18, hb18⟩
              refine hK _ _ (by (repeat (first | exact bl_refl | assumption | (apply bl_then; assumption) | refine bl_alloc ?_ _ | refine bl_drew ?_ | refine bl_drewN ?_ _))) ?_
              clear hK K
              iterate 4 (refine wpTree_take rfl rfl ?_; intro K hK; simp only [Array.getD_eq_getD_getElem?, List.getElem?_toArray, List.getElem?_cons_succ, List.getElem?_cons_zero, Option.getD_some]; go_big_quiet_op; go_big_quiet_on)
              refine wpTree_fin ?_
              go_wp2_with fail
              go_meet
              case rel => exact ⟨rfl, hO18.rd bc_len, by (repeat (first | exact bl_refl | assumption | (apply bl_then; assumption) | refine bl_alloc ?_ _ | refine bl_drew ?_ | refine bl_drewN ?_ _))⟩
          case rest =>
            obtain ⟨rfl, hR, hbc⟩ := hcut
            obtain ⟨w19, rfl⟩ : ∃ x, x = wc := ⟨_, rfl⟩
            have hCt19 := hCta.below hbc
            have hbw19 := bl_then hbc hbw15
            obtain ⟨Ar, cr, rfl, _, _, _⟩ := id hR
            rw [HBN.out] at hR ⊢
            clear hbc hbw15 hCta hN0 fhN0
            go_wp2_with fail
            refine (copied_any R _ (hR.below (by (repeat (first | exact bl_refl | assumption | (apply bl_then; assumption) | refine bl_alloc ?_ _ | refine bl_drew ?_ | refine bl_drewN ?_ _)))) lR).mono ?_
            rintro e w20 ⟨v20, rfl, hC20, hb20⟩
            go_wp2_with fail
            refine (c1 _ _ (hC20.rd bc_len)).mono ?_
            rintro e w21 ⟨rfl, hb21⟩
            have hCt21 := hCt19.below (show Below w19.heap.size w19 w21 by (repeat (first | exact bl_refl | assumption | (apply bl_then; assumption) | refine bl_alloc ?_ _ | refine bl_drew ?_ | refine bl_drewN ?_ _)))
            have hbw21 : Below w.heap.size w w21 := by (repeat (first | exact bl_refl | assumption | (apply bl_then; assumption) | refine bl_alloc ?_ _ | refine bl_drew ?_ | refine bl_drewN ?_ _))
            clear hb20 hb21 hC20 hbw19 hCt19
            rcases hr2 with hr2 | ⟨hr2, rfl, rfl⟩
            · have t9 : ((mn : Int) + hn - mn' - hn' == 0) = true := by simp [hr2]
              clear hr2
              go_wp2_with (refine wpList_store_blk (Blk.new w21 39 zer5) rfl _ _ _ rfl rfl rfl (by rfl) (by kernel_rfl) (by kernel_rfl) ?_; intro w22 hD22 hc22; have hb22 : Below w21.heap.size w21 w22 := ((Chg.of_below (bl_alloc bl_refl _)).trans hc22).below (by simp) (Nat.le_refl _); have fhC := (hCt21.below hb22).facts; have fhD := hD22.facts; clear hc22)
              go_ret
              exact ⟨rfl, bl_then hb22 hbw21⟩
            · have t9 : ((mn : Int) + hn - mn' - hn' == 0) = false := beq_false_of_ne (by omega)
              have t10 : ((mn : Int) + hn - mn' - hn' == 1) = true := by simp [hr2]
              clear hr2
              go_wp2_with (refine wpList_store_blk (Blk.new w21 39 zer5) rfl _ _ _ rfl rfl rfl (by rfl) (by kernel_rfl) (by kernel_rfl) ?_; intro w22 hD22 hc22; have hb22 : Below w21.heap.size w21 w22 := ((Chg.of_below (bl_alloc bl_refl _)).trans hc22).below (by simp) (Nat.le_refl _); have fhC := (hCt21.below hb22).facts; have fhD := hD22.facts; clear hc22)
              go_ret
              exact ⟨rfl, bl_then hb22 hbw21⟩
end Go.Proofs.YtkmjcoofkgpanaaGreatDoor
