/- NettingRectangles: the law, walked. Conditions: the variables are laid. -/
import Derived.Test.YtkmjcoofkgpanaaGreatDoorB21
import Derived.Test.YtkmjcoofkgpanaaGreatDoorPreJ
import Derived.Test.YtkmjcoofkgpanaaGreatDoorPtuJ
import Derived.Test.YtkmjcoofkgpanaaGreatDoorLmoJ
import Derived.Test.YtkmjcoofkgpanaaGreatDoorLpaJ
import Derived.Test.YtkmjcoofkgpanaaGreatDoorNrsJ
import Derived.Deep.CutRange
namespace Go.Proofs.YtkmjcoofkgpanaaGreatDoor
open Go.RowKit Go.ChangeMaps
set_option maxHeartbeats 4000000
set_option maxRecDepth 100000

attribute [local go_sem] Oper.semAt_some
theorem sheet_in {x y : Int} {c r : Nat} (h : sheetE x y c r = 0) (hc : 1 ≤ c ∧ c ≤ 100) (hr : 1 ≤ r ∧ r ≤ 100) : SheetIn x y c r := by
  have h1 : shE1 x y c r = 0 := by
    unfold sheetE at h
    split at h
    · rename_i h0; exact absurd h h0
    · rename_i h0; exact Decidable.byContradiction fun q => h0 q
  have h2 : shE2 x y c r = 0 := by
    unfold sheetE at h
    rwa [if_neg (by simp [h1])] at h
  obtain ⟨a1, _, _⟩ := firstI3_zero h1
  obtain ⟨z1, z2, z3, z4, z5⟩ := knotE_zero a1
  obtain ⟨b1, b2⟩ := firstI_zero h2
  have b3 : 2 * (c : Int) * (r : Int) ≤ 4096 := by
    unfold whenI at b1
    by_cases q : 4096 < 2 * (c : Int) * (r : Int)
    · simp [q] at b1
    · omega
  have b4 : x + 2 * c ≤ 100000 ∧ y + r ≤ 100000 := by
    rw [reachI_far] at b2
    unfold farB at b2
    by_cases q : x + 2 * (c : Int) ≤ 100000 ∧ y + (r : Int) ≤ 100000
    · exact q
    · rw [if_pos (by simp; omega)] at b2
      cases b2
  refine ⟨hc, hr, by omega, by omega, z5, ?_⟩
  have : ((2 * c * r : Nat) : Int) ≤ 4096 := by simpa using b3
  omega
theorem SheetIn.less {x y : Int} {c r k : Nat} (h : SheetIn x y c (r + k)) (hr : 1 ≤ r) : SheetIn x y c r := by
  have e1 := h.r1
  have e2 := h.y1
  have e3 := h.l1
  refine ⟨h.c1, by omega, h.x1, by omega, h.p1, ?_⟩
  have := Nat.mul_le_mul_left (2 * c) (show r ≤ r + k by omega)
  omega
theorem SheetIn.err {x y : Int} {c r : Nat} (h : SheetIn x y c r) : sheetE x y c r = 0 := by
  have e1 := h.c1
  have e2 := h.r1
  have e3 := h.x1
  have e4 := h.y1
  have e5 : 2 * (c : Int) * (r : Int) ≤ 4096 := by
    have := h.l1
    have h2 : ((2 * c * r : Nat) : Int) ≤ 4096 := by omega
    simpa using h2
  have s1 : shE1 x y c r = 0 := by
    unfold shE1 withinI
    rw [h.knot]
    simp [firstI, whenI]
    omega
  unfold sheetE
  rw [if_neg (by simp [s1])]
  unfold shE2 whenI
  rw [decide_eq_false (by omega), reachI_far, farB_no (by omega), farB_no (by omega)]
  rfl
theorem SheetIn.list {x y : Int} {c r : Nat} (h : SheetIn x y c r) : sheetL x y c r = shN x y c r := by
  unfold sheetL
  rw [if_pos h.err, Int.toNat_natCast, Int.toNat_natCast]
theorem mS_in {c : Int} (hc : 1 ≤ c ∧ c ≤ 6) : ∀ j : Nat, 0 ≤ mS c j ∧ mS c j ≤ 6 * j
  | 0 => by simp [mS]
  | j + 1 => by
    have := mS_in hc j
    have e : mS c (j + 1) = mS c j + (c - ((j : Int) + 1) % 2) := rfl
    rw [e]
    omega
theorem kS_in {c : Int} (hc : 1 ≤ c ∧ c ≤ 6) : ∀ j : Nat, 0 ≤ kS c j ∧ kS c j ≤ 7 * j
  | 0 => by simp [kS]
  | j + 1 => by
    have := kS_in hc j
    have e : kS c (j + 1) = kS c j + (c + 1 - (j : Int) % 2) := rfl
    rw [e]
    omega
theorem aSheet {x y : Int} {c r : Nat} (h : SheetIn x y c r) (w : World) : Calls Tryz.prog 18 #[.agg #[.int .i64 x, .int .i64 y], .int .i64 c, .int .i64 r] w (RBE w (shN x y c r) 0) := by
  have := apiSheet_any x y c r w
  rwa [h.err, h.list] at this
theorem nettingRectangles_any (x y s0 s1 m : Int) (w : World) (h0 : 0 ≤ s0 ∧ s0 ≤ 255) (h1 : 0 ≤ s1 ∧ s1 ≤ 255) (hm : 0 ≤ m ∧ m ≤ 255) (hL : Lay w) : Calls Tryz.prog 15 #[.agg #[.int .i64 x, .int .i64 y], .agg #[.int .u8 s0, .int .u8 s1], .int .u8 m] w (RV w (.bool true)) := by
  have ca := fun W (hb : Below w.heap.size w W) => awake_any W (hL.below hb)
  have hK := (Blk.new w 23 #[.int .i64 x, .int .i64 y]).alloc (.cells #[.int .u8 s0, .int .u8 s1] 116)
  have hZ := Blk.new1 w (.cells #[.int .i64 x, .int .i64 y] 23) 116 #[.int .u8 s0, .int .u8 s1]
  have fhK := hK.facts
  have fhZ := hZ.facts
  obtain ⟨c, hc, hc6⟩ : ∃ c : Nat, 1 + s0 % 6 = (c : Int) ∧ 1 ≤ c ∧ c ≤ 6 := ⟨(1 + s0 % 6).toNat, by omega, by omega, by omega⟩
  obtain ⟨r, hr, hr8⟩ : ∃ r : Nat, 1 + s1 % 8 = (r : Int) ∧ 1 ≤ r ∧ r ≤ 8 := ⟨(1 + s1 % 8).toNat, by omega, by omega, by omega⟩
  obtain ⟨h, hh, hh4⟩ : ∃ h : Nat, 1 + m % 4 = (h : Int) ∧ 1 ≤ h ∧ h ≤ 4 := ⟨(1 + m % 4).toNat, by omega, by omega, by omega⟩
  have gk := fun W => rknot_any x y W
  have gs := fun W => rchecksheet_any x y c ((r : Int) + h) W
  go_enter Tryz.func15, Tryz.ntmps15
  go_wp2
  refine wp_region_ords [0, 1, 2, 3, 4, 5, 6, 7, 8, 9, 10, 11, 12, 13, 14, 15, 16] [] [] (by kernel_rfl) (by kernel_rfl) (fun d _ _ _ _ h => by cases d <;> exact h) ?_
  simp only [List.map_cons, List.map_nil, List.getD_cons_zero, List.getD_cons_succ]
  repeat (go_big_quiet_step (fail))
  refine wpQuiet_nil ?_
  refine wpMid_nil ?_
  go_upto_region 2 with fail
  clear hc hr hh h0 h1 hm fhK fhZ hZ
  obtain ⟨w0, hw0⟩ : ∃ X, ((w.alloc (.cells #[.int .i64 x, .int .i64 y] 23)).alloc (.cells #[.int .u8 s0, .int .u8 s1] 116)).drew = X := ⟨_, rfl⟩
  have hb0 : Below w.heap.size w w0 := by rw [← hw0]; exact bl_drew (bl_alloc (bl_alloc bl_refl _) _)
  have hK0 : Blk w0 w.heap.size 23 #[.int .i64 x, .int .i64 y] := by rw [← hw0]; exact hK.drew
  rw [hw0]
  clear hw0 hK
  have fhK0 := hK0.facts
  by_cases hE1 : knotE x y = 0
  rotate_left
  · have t1 : (knotE x y != 0) = true := by simp [hE1]
    clear hE1
    go_wp2_with fail
    refine (ca _ (by (repeat (first | exact bl_refl | assumption | (apply bl_then; assumption) | refine bl_alloc ?_ _ | refine bl_drew ?_ | refine bl_drewN ?_ _)))).mono ?_
    rintro e w1 ⟨rfl, hb1⟩
    replace hK0 := hK0.below (show Below _ _ w1 by (repeat (first | exact bl_refl | assumption | (apply bl_then; assumption) | refine bl_alloc ?_ _ | refine bl_drew ?_ | refine bl_drewN ?_ _)))
    replace fhK0 := hK0.facts
    go_wp2_with fail
    refine (gk _).mono ?_
    rintro e w2 ⟨rfl, hb2⟩
    go_wp2_with fail
    refine (ca _ (by (repeat (first | exact bl_refl | assumption | (apply bl_then; assumption) | refine bl_alloc ?_ _ | refine bl_drew ?_ | refine bl_drewN ?_ _)))).mono ?_
    rintro e w3 ⟨rfl, hb3⟩
    go_wp2
    go_ret
    exact ⟨rfl, by (repeat (first | exact bl_refl | assumption | (apply bl_then; assumption) | refine bl_alloc ?_ _ | refine bl_drew ?_ | refine bl_drewN ?_ _))⟩
  rw [hE1] at gk
  by_cases hE2 : sheetE x y c ((r : Int) + h) = 0
  rotate_left
  · have t1 : (sheetE x y c ((r : Int) + h) != 0) = true := by simp [hE2]
    clear hE1 hE2
    go_wp2_with fail
    refine (ca _ (by (repeat (first | exact bl_refl | assumption | (apply bl_then; assumption) | refine bl_alloc ?_ _ | refine bl_drew ?_ | refine bl_drewN ?_ _)))).mono ?_
    rintro e w1 ⟨rfl, hb1⟩
    replace hK0 := hK0.below (show Below _ _ w1 by (repeat (first | exact bl_refl | assumption | (apply bl_then; assumption) | refine bl_alloc ?_ _ | refine bl_drew ?_ | refine bl_drewN ?_ _)))
    replace fhK0 := hK0.facts
    go_wp2_with fail
    refine (gk _).mono ?_
    rintro e w2 ⟨rfl, hb2⟩
    replace hK0 := hK0.below (show Below _ _ w2 by (repeat (first | exact bl_refl | assumption | (apply bl_then; assumption) | refine bl_alloc ?_ _ | refine bl_drew ?_ | refine bl_drewN ?_ _)))
    replace fhK0 := hK0.facts
    go_wp2_with fail
    refine (gs _).mono ?_
    rintro e w3 ⟨rfl, hb3⟩
    go_wp2_with fail
    refine (ca _ (by (repeat (first | exact bl_refl | assumption | (apply bl_then; assumption) | refine bl_alloc ?_ _ | refine bl_drew ?_ | refine bl_drewN ?_ _)))).mono ?_
    rintro e w4 ⟨rfl, hb4⟩
    go_wp2
    go_ret
    exact ⟨rfl, by (repeat (first | exact bl_refl | assumption | (apply bl_then; assumption) | refine bl_alloc ?_ _ | refine bl_drew ?_ | refine bl_drewN ?_ _))⟩
  rw [hE2] at gs
  have T1 : SheetIn x y c (r + h) := sheet_in (by rw [Int.natCast_add]; exact hE2) (by omega) (by omega)
  have T0 : SheetIn x y c r := T1.less hr8.1
  have sh1 := fun W => aSheet T0 W
  have sh2 := fun W => aSheet T1 W
  rw [Int.natCast_add] at sh2
  have hne := T0.net
  have hnA := T1.net
  have c1 := fun W z (q : SlB W z (shN x y c r)) => aCount _ W q hne
  rw [T0.cnt] at c1
  have dg := fun W z (q : SlB W z (shN x y c r)) (a b : Int) (ha : x < a ∧ a < x + 2 * c) (hb : y < b ∧ b < y + r) (hp : (a + b) % 2 = 0) => aDegree _ a b W q hne (T0.deg ha hb hp).1
  have hdg : ∀ a b : Int, x < a ∧ a < x + 2 * c → y < b ∧ b < y + r → (a + b) % 2 = 0 → degN (shN x y c r) (a, b) = 4 := fun a b ha hb hp => (T0.deg ha hb hp).2
  have HDG := Lib.hid hdg
  have hnW : netE (wout (shN x y c (r + h)) (shN x y c r)) = 0 := netE_wout hnA
  have hl1 : ((shN x y c r).length : Int) = 2 * (c : Int) * (r : Int) := by rw [sheet_len _ _ hc6.1]; simp
  have hl2 : ((wout (shN x y c (r + h)) (shN x y c r)).length : Int) = 2 * (c : Int) * (h : Int) := by rw [above_len _ _ hc6.1]; simp
  have hl3 : (shN x y c (r + h)).length = 2 * c * (r + h) := sheet_len _ _ hc6.1 _
  have hcr : c * r ≤ 48 := Nat.mul_le_mul hc6.2 hr8.2
  have hch : c * h ≤ 24 := Nat.mul_le_mul hc6.2 hh4.2
  have hcrh : c * (r + h) ≤ 72 := Nat.mul_le_mul hc6.2 (show r + h ≤ 12 by omega)
  obtain ⟨p, hp⟩ : ∃ p : Nat, 2 * (c : Int) * (r : Int) = (p : Int) := ⟨2 * c * r, by simp⟩
  obtain ⟨p2, hp2⟩ : ∃ p : Nat, 2 * (c : Int) * (h : Int) = (p : Int) := ⟨2 * c * h, by simp⟩
  have hpb : p ≤ 96 := by
    have : ((2 * c * r : Nat) : Int) = p := by rw [← hp]; simp
    rw [Nat.mul_assoc] at this
    omega
  have hpb2 : p2 ≤ 96 := by
    have : ((2 * c * h : Nat) : Int) = p2 := by rw [← hp2]; simp
    rw [Nat.mul_assoc] at this
    omega
  have hlA : (shN x y c (r + h)).length ≤ 100000 := by rw [hl3, Nat.mul_assoc]; omega
  rw [hp] at hl1 c1
  rw [hp2] at hl2
  have mw : IntKind.i64.wrap (2 * (c : Int) * (r : Int)) = (p : Int) := by rw [hp]; exact IntWalk.i64_in _ (by omega)
  have mw2 : IntKind.i64.wrap (2 * (c : Int) * (h : Int)) = (p2 : Int) := by rw [hp2]; exact IntWalk.i64_in _ (by omega)
  have mm := fun W z z' (q : SlB W z (shN x y c (r + h))) (q' : SlB W z' (shN x y c r)) => aMinus _ _ W q q' hnA hne
  have mu := fun W z z' (q : SlB W z (wout (shN x y c (r + h)) (shN x y c r))) (q' : SlB W z' (shN x y c r)) => aUnion _ _ W q q' hnW hne (by omega)
  have me := fun W z z' (q : SlB W z (wout (shN x y c (r + h)) (shN x y c r))) (q' : SlB W z' (shN x y c r)) => aMeet _ _ W q q' hnW hne
  rw [above_both] at mu
  rw [meet_none] at me
  have mt := fun W z (q : SlB W z (shN x y c r)) => aTurn _ 2 W q hne
  rw [show qN 2 = 2 from rfl] at mt
  have ms : r % 2 = 0 → ∀ W z, knotE (2 * x + 2 * (c : Int)) (2 * y + (r : Int)) = 0 → SlB W z (turnN 2 (shN x y c r)) → Calls Tryz.prog 56 #[z, .agg #[.int .i64 (2 * x + 2 * (c : Int)), .int .i64 (2 * y + (r : Int))]] W (RBE W (shN x y c r) 0) := fun h2 W z hk q => by
    have := aShift _ _ _ W q T0.turned hk (by rw [sheet_turned x y c h2]; exact T0.inn)
    rwa [sheet_turned x y c h2] at this
  have ktl : (turnN 2 (shN x y c r)).length = (shN x y c r).length := turnN_len _ 2
  have bx := T1.x1
  have bY := T1.y1
  have hks := kS_in (c := (c : Int)) (by omega)
  have hms := mS_in (c := (c : Int)) (by omega)
  have HKS := Lib.hid hks
  have HMS := Lib.hid hms
  obtain ⟨S, hS⟩ : ∃ S, shN x y c r = S := ⟨_, rfl⟩
  obtain ⟨G, hG⟩ : ∃ S, shN x y c (r + h) = S := ⟨_, rfl⟩
  rw [hS] at sh1 c1 dg HDG hl1 hl2 mm mu me mt ms ktl
  rw [hG] at sh2 hl2 hlA mm mu me
  obtain ⟨V, hV⟩ : ∃ X, wout G S = X := ⟨_, rfl⟩
  rw [hV] at hl2 mm mu me
  obtain ⟨U, hU⟩ : ∃ X, turnN 2 S = X := ⟨_, rfl⟩
  rw [hU] at mt ms ktl
  have hSl : S.length = p := by omega
  have hVl : V.length = p2 := by omega
  have HSL := Lib.hid hSl
  have HVL := Lib.hid hVl
  have lS : S.length ≤ 100000 := by omega
  have lV : V.length ≤ 100000 := by omega
  have lU : U.length ≤ 100000 := by omega
  clear hE1 hE2 T0 T1 hne hnA hdg hnW hl1 hl2 hl3 hcr hch hcrh hp hp2 hks hms hS hG hV hU hSl hVl ktl
  go_wp2_with fail
  refine (ca _ (by (repeat (first | exact bl_refl | assumption | (apply bl_then; assumption) | refine bl_alloc ?_ _ | refine bl_drew ?_ | refine bl_drewN ?_ _)))).mono ?_
  rintro e w1 ⟨rfl, hb1⟩
  replace hK0 := hK0.below (show Below _ _ w1 by (repeat (first | exact bl_refl | assumption | (apply bl_then; assumption) | refine bl_alloc ?_ _ | refine bl_drew ?_ | refine bl_drewN ?_ _)))
  replace fhK0 := hK0.facts
  go_wp2_with fail
  refine (gk _).mono ?_
  rintro e w2 ⟨rfl, hb2⟩
  replace hK0 := hK0.below (show Below _ _ w2 by (repeat (first | exact bl_refl | assumption | (apply bl_then; assumption) | refine bl_alloc ?_ _ | refine bl_drew ?_ | refine bl_drewN ?_ _)))
  replace fhK0 := hK0.facts
  go_wp2_with fail
  refine (gs _).mono ?_
  rintro e w3 ⟨rfl, hb3⟩
  replace hK0 := hK0.below (show Below _ _ w3 by (repeat (first | exact bl_refl | assumption | (apply bl_then; assumption) | refine bl_alloc ?_ _ | refine bl_drew ?_ | refine bl_drewN ?_ _)))
  replace fhK0 := hK0.facts
  go_wp2_with fail
  refine (sh1 _).mono ?_
  rintro e w4 ⟨vS, rfl, hS4, hb4⟩
  replace hK0 := hK0.below (show Below _ _ w4 by (repeat (first | exact bl_refl | assumption | (apply bl_then; assumption) | refine bl_alloc ?_ _ | refine bl_drew ?_ | refine bl_drewN ?_ _)))
  replace fhK0 := hK0.facts
  obtain ⟨AS, cS, rfl⟩ := hS4.shape
  replace hS4 := hS4.rd bc_len
  rw [HSL.out] at hS4 ⊢
  go_wp2_with fail
  refine (copied_any S _ hS4 lS).mono ?_
  rintro e w5 ⟨v5, rfl, hC5, hb5⟩
  go_wp2_with fail
  refine (c1 _ _ (hC5.rd bc_len)).mono ?_
  rintro e w6 ⟨rfl, hb6⟩
  have hS6 := hS4.below (show Below w4.heap.size w4 w6 by (repeat (first | exact bl_refl | assumption | (apply bl_then; assumption) | refine bl_alloc ?_ _ | refine bl_drew ?_ | refine bl_drewN ?_ _)))
  have hK6 := hK0.below (show Below w4.heap.size w4 w6 by (repeat (first | exact bl_refl | assumption | (apply bl_then; assumption) | refine bl_alloc ?_ _ | refine bl_drew ?_ | refine bl_drewN ?_ _)))
  have hb06 : Below w0.heap.size w0 w6 := by (repeat (first | exact bl_refl | assumption | (apply bl_then; assumption) | refine bl_alloc ?_ _ | refine bl_drew ?_ | refine bl_drewN ?_ _))
  have hbw6 := bl_then hb06 hb0
  clear hb1 hb2 hb3 hb4 hb5 hb6 hb06 hC5 hS4 fhK0 hK0 hb0
  go_wp2_with (refine wpList_store_blk (Blk.new w6 39 zer5) rfl _ _ _ rfl rfl rfl (by rfl) (by kernel_rfl) (by kernel_rfl) ?_; intro w7 hCt hc7)
  have hb7 : Below w6.heap.size w6 w7 := ((Chg.of_below (bl_alloc bl_refl _)).trans hc7).below (by simp) (Nat.le_refl _)
  have hbw7 := bl_then hb7 hbw6
  have hK7 := hK6.below hb7
  have hS7 := hS6.below hb7
  clear hc7 hb7 hbw6 hK6 hS6
  go_wp2
  go_loopw [14, 15] (fun s14 s15 wr => ∃ j : Nat, j + 1 ≤ r ∧ s15 = .int .i64 ((j : Int) + 1) ∧ s14 = .int .i64 (mS c j) ∧ Below w7.heap.size w7 wr) (fun _ s15 _ => r + 1 - (intOf s15).toNat)
  case atStart => exact ⟨0, by omega, rfl, rfl, by (repeat (first | exact bl_refl | assumption | (apply bl_then; assumption) | refine bl_alloc ?_ _ | refine bl_drew ?_ | refine bl_drewN ?_ _))⟩
  case round =>
    obtain ⟨j, hj, rfl, rfl, hbr⟩ := hrel
    obtain ⟨wq, rfl⟩ : ∃ x, x = wr := ⟨_, rfl⟩
    by_cases hlt : j + 1 < r
    · have hlt' : (j : Int) + 1 < (r : Int) := by omega
      have e1 : ∀ X : Int, X = mS c j + (c - ((j : Int) + 1) % 2) → Value.int .i64 X = Value.int .i64 (mS c (j + 1)) := fun X h => by rw [h]; rfl
      have E1 := Lib.hid e1
      have hz := HMS.out j
      obtain ⟨Z, hZ⟩ : ∃ Z, mS c j = Z := ⟨_, rfl⟩
      rw [hZ] at hz E1 ⊢
      clear e1 hZ
      go_wp2
      go_roundw
      case rel => exact ⟨j + 1, by omega, by go_num, E1.out _ (by omega), hbr⟩
      case measure => simp [intOf]; omega
    · have hjr : j = r - 1 := by omega
      subst hjr
      have t2 : (((r - 1 : Nat) : Int) + 1 < (r : Int)) = False := eq_false (by omega)
      have hzm := HMS.out (r - 1)
      have hCtq := hCt.below hbr
      have hKq := hK7.below hbr
      have hSq := hS7.below hbr
      have hbwq := bl_then hbr hbw7
      obtain ⟨mn, hmn⟩ : ∃ z, mS c (r - 1) = z := ⟨_, rfl⟩
      rw [hmn] at hCtq hzm ⊢
      clear hmn hCt hK7 hS7 hbr hbw7 hj HMS
      go_wp2
      clear t2
      go_loopw [16, 17] (fun s16 s17 wr => ∃ j : Nat, j ≤ r + 1 ∧ s17 = .int .i64 j ∧ s16 = .int .i64 (kS c j) ∧ Below wq.heap.size wq wr) (fun _ s17 _ => r + 2 - (intOf s17).toNat)
      case atStart => exact ⟨0, by omega, rfl, rfl, by (repeat (first | exact bl_refl | assumption | (apply bl_then; assumption) | refine bl_alloc ?_ _ | refine bl_drew ?_ | refine bl_drewN ?_ _))⟩
      case round =>
        obtain ⟨j, hj, rfl, rfl, hbr⟩ := hrel
        obtain ⟨wp, rfl⟩ : ∃ x, x = wr := ⟨_, rfl⟩
        by_cases hlt : j ≤ r
        · have hlt' : (j : Int) ≤ (r : Int) := by omega
          have e1 : ∀ X : Int, X = kS c j + (c + 1 - (j : Int) % 2) → Value.int .i64 X = Value.int .i64 (kS c (j + 1)) := fun X h => by rw [h]; rfl
          have E1 := Lib.hid e1
          have hz := HKS.out j
          obtain ⟨Z, hZ⟩ : ∃ Z, kS c j = Z := ⟨_, rfl⟩
          rw [hZ] at hz E1 ⊢
          clear e1 hZ
          go_wp2
          go_roundw
          case rel => exact ⟨j + 1, by omega, by go_num, E1.out _ (by omega), hbr⟩
          case measure => simp [intOf]; omega
        · obtain rfl : j = r + 1 := by omega
          rw [show ((r + 1 : Nat) : Int) = (r : Int) + 1 from rfl]
          have t3 : ((r : Int) + 1 ≤ (r : Int)) = False := eq_false (by omega)
          have hCtp := hCtq.below hbr
          have hKp := hKq.below hbr
          have hSp := hSq.below hbr
          have hbwp := bl_then hbr hbwq
          obtain ⟨kn, hkn⟩ : ∃ z, kS c (r + 1) = z := ⟨_, rfl⟩
          rw [hkn] at hCtp ⊢
          clear hkn hCtq hKq hSq hbr hbwq hj hlt HKS
          have fhC := hCtp.facts
          have fhK := hKp.facts
          go_wp2
          clear t3 fhC hCtp hzm
          go_loopw [18] (fun s18 wr => ∃ b : Int, s18 = .int .i64 b ∧ y + 1 ≤ b ∧ b ≤ y + r ∧ Below wp.heap.size wp wr) (fun s18 _ => (y + r - intOf s18).toNat)
          case atStart => exact ⟨y + 1, rfl, by omega, by omega, by (repeat (first | exact bl_refl | assumption | (apply bl_then; assumption) | refine bl_alloc ?_ _ | refine bl_drew ?_ | refine bl_drewN ?_ _))⟩
          case round =>
            obtain ⟨b, rfl, hb1, hb2, hbr⟩ := hrel
            obtain ⟨wo, rfl⟩ : ∃ x, x = wr := ⟨_, rfl⟩
            have hKo := hKp.below hbr
            have hSo := hSp.below hbr
            have hbwo := bl_then hbr hbwp
            clear fhK
            have fhK := hKo.facts
            by_cases hlt : b < y + r
            · go_wp2
              go_loopw [19] (fun s19 wr => ∃ a : Int, s19 = .int .i64 a ∧ x + 1 ≤ a ∧ a ≤ x + 2 * c ∧ Below wo.heap.size wo wr) (fun s19 _ => (x + 2 * c - intOf s19).toNat)
              case atStart => exact ⟨x + 1, rfl, by omega, by omega, by (repeat (first | exact bl_refl | assumption | (apply bl_then; assumption) | refine bl_alloc ?_ _ | refine bl_drew ?_ | refine bl_drewN ?_ _))⟩
              case round =>
                obtain ⟨a, rfl, ha1, ha2, hbi⟩ := hrel
                obtain ⟨wi, rfl⟩ : ∃ x, x = wr := ⟨_, rfl⟩
                have hKi := hKo.below hbi
                have hSi := hSo.below hbi
                clear fhK
                have fhK := hKi.facts
                by_cases hla : a < x + 2 * c
                · by_cases hp : (a + b) % 2 = 0
                  · have hpt : (a + b).tmod 2 = 0 := Int.tmod_eq_zero_of_dvd (Int.dvd_of_emod_eq_zero hp)
                    have hpu : ((a + b).tmod 2 != 0) = false := by simp [hpt]
                    have dga := fun W z (q : SlB W z S) => dg W z q a b (by omega) (by omega) hp
                    rw [HDG.out a b (by omega) (by omega) hp] at dga
                    clear hpt hp
                    go_wp2_with fail
                    refine (copied_any S _ (hSi.below (by (repeat (first | exact bl_refl | assumption | (apply bl_then; assumption) | refine bl_alloc ?_ _ | refine bl_drew ?_ | refine bl_drewN ?_ _)))) lS).mono ?_
                    rintro e w8 ⟨v8, rfl, hC8, hb8⟩
                    go_wp2_with fail
                    refine (dga _ _ (hC8.rd bc_len)).mono ?_
                    rintro e w9 ⟨rfl, hb9⟩
                    go_wp2
                    go_roundw
                    case rel => exact ⟨a + 1, by go_num, by omega, by omega, bl_then (show Below wi.heap.size wi w9 by (repeat (first | exact bl_refl | assumption | (apply bl_then; assumption) | refine bl_alloc ?_ _ | refine bl_drew ?_ | refine bl_drewN ?_ _))) hbi⟩
                    case measure => simp [intOf]; omega
                  · have hpt : (a + b).tmod 2 ≠ 0 := fun e => hp (Int.emod_eq_zero_of_dvd (Int.dvd_of_tmod_eq_zero e))
                    have hpu : ((a + b).tmod 2 != 0) = true := by simp [hpt]
                    clear hpt hp
                    go_wp2
                    go_roundw
                    case rel => exact ⟨a + 1, by go_num, by omega, by omega, hbi⟩
                    case measure => simp [intOf]; omega
                · have hae : a = x + 2 * c := by omega
                  have t4 : (a < x + 2 * (c : Int)) = False := eq_false (by omega)
                  clear hae
                  go_wp2
                  go_roundw
                  case rel => exact ⟨b + 1, by go_num, by omega, by omega, bl_then hbi hbr⟩
                  case measure => simp [intOf]; omega
            · have t5 : (b < y + (r : Int)) = False := eq_false (by omega)
              clear hlt
              clear hb1 hb2 hKp hSp hbwp hbr HDG dg
              go_wp2_with fail
              refine (sh2 _).mono ?_
              rintro e w20 ⟨vG, rfl, hG20, hb20⟩
              replace hG20 := hG20.rd bc_len
              go_wp2_with fail
              refine (copied_any G _ hG20 hlA).mono ?_
              rintro e w21 ⟨v21, rfl, hC21, hb21⟩
              go_wp2_with fail
              refine (copied_any S _ (hSo.below (by (repeat (first | exact bl_refl | assumption | (apply bl_then; assumption) | refine bl_alloc ?_ _ | refine bl_drew ?_ | refine bl_drewN ?_ _)))) lS).mono ?_
              rintro e w22 ⟨v22, rfl, hC22, hb22⟩
              go_wp2_with fail
              refine (mm _ _ _ ((hC21.rd bc_len).below (by (repeat (first | exact bl_refl | assumption | (apply bl_then; assumption) | refine bl_alloc ?_ _ | refine bl_drew ?_ | refine bl_drewN ?_ _)))) (hC22.rd bc_len)).mono ?_
              rintro e w23 ⟨vV, rfl, hV23, hb23⟩
              obtain ⟨AV, cV, rfl⟩ := hV23.shape
              replace hV23 := hV23.rd bc_len
              rw [HVL.out] at hV23 ⊢
              go_wp2_with fail
              refine (copied_any V _ hV23 lV).mono ?_
              rintro e w24 ⟨v24, rfl, hC24, hb24⟩
              go_wp2_with fail
              refine (copied_any S _ (hSo.below (by (repeat (first | exact bl_refl | assumption | (apply bl_then; assumption) | refine bl_alloc ?_ _ | refine bl_drew ?_ | refine bl_drewN ?_ _)))) lS).mono ?_
              rintro e w25 ⟨v25, rfl, hC25, hb25⟩
              go_wp2_with fail
              refine (mu _ _ _ ((hC24.rd bc_len).below (by (repeat (first | exact bl_refl | assumption | (apply bl_then; assumption) | refine bl_alloc ?_ _ | refine bl_drew ?_ | refine bl_drewN ?_ _)))) (hC25.rd bc_len)).mono ?_
              rintro e w26 ⟨vB, rfl, hB26, hb26⟩
              go_wp2_with fail
              refine (copied_any V _ (hV23.below (by (repeat (first | exact bl_refl | assumption | (apply bl_then; assumption) | refine bl_alloc ?_ _ | refine bl_drew ?_ | refine bl_drewN ?_ _)))) lV).mono ?_
              rintro e w27 ⟨v27, rfl, hC27, hb27⟩
              go_wp2_with fail
              refine (copied_any S _ (hSo.below (by (repeat (first | exact bl_refl | assumption | (apply bl_then; assumption) | refine bl_alloc ?_ _ | refine bl_drew ?_ | refine bl_drewN ?_ _)))) lS).mono ?_
              rintro e w28 ⟨v28, rfl, hC28, hb28⟩
              go_wp2_with fail
              refine (me _ _ _ ((hC27.rd bc_len).below (by (repeat (first | exact bl_refl | assumption | (apply bl_then; assumption) | refine bl_alloc ?_ _ | refine bl_drew ?_ | refine bl_drewN ?_ _)))) (hC28.rd bc_len)).mono ?_
              rintro e w29 ⟨vN, rfl, hN29, hb29⟩
              obtain ⟨AN, cN, rfl⟩ := hN29.shape
              go_wp2_with fail
              refine (aSame G G _ ((hB26.rd bc_len).below (by (repeat (first | exact bl_refl | assumption | (apply bl_then; assumption) | refine bl_alloc ?_ _ | refine bl_drew ?_ | refine bl_drewN ?_ _)))) (hG20.below (by (repeat (first | exact bl_refl | assumption | (apply bl_then; assumption) | refine bl_alloc ?_ _ | refine bl_drew ?_ | refine bl_drewN ?_ _)))) rfl).mono ?_
              rintro e w30 ⟨rfl, hb30⟩
              have hK30 := hKo.below (show Below wo.heap.size wo w30 by (repeat (first | exact bl_refl | assumption | (apply bl_then; assumption) | refine bl_alloc ?_ _ | refine bl_drew ?_ | refine bl_drewN ?_ _)))
              have hS30 := hSo.below (show Below wo.heap.size wo w30 by (repeat (first | exact bl_refl | assumption | (apply bl_then; assumption) | refine bl_alloc ?_ _ | refine bl_drew ?_ | refine bl_drewN ?_ _)))
              have hbw30 : Below w.heap.size w w30 := by (repeat (first | exact bl_refl | assumption | (apply bl_then; assumption) | refine bl_alloc ?_ _ | refine bl_drew ?_ | refine bl_drewN ?_ _))
              clear hb20 hb21 hb22 hb23 hb24 hb25 hb26 hb27 hb28 hb29 hb30 hC21 hC22 hC24 hC25 hC27 hC28 hG20 hV23 hB26 hN29 fhK hKo hSo hbwo
              by_cases ho : r % 2 = 1
              · have hoi : (r : Int) % 2 = 1 := by omega
                have t6 : ((r : Int) % 2 == 1) = true := by simp [hoi]
                clear ho hoi
                go_wp2
                go_ret
                exact ⟨rfl, by (repeat (first | exact bl_refl | assumption | (apply bl_then; assumption) | refine bl_alloc ?_ _ | refine bl_drew ?_ | refine bl_drewN ?_ _))⟩
              · have hoi : (r : Int) % 2 ≠ 1 := by omega
                have t6 : ((r : Int) % 2 == 1) = false := beq_false_of_ne hoi
                have ms' := ms (by omega)
                clear ho hoi ms
                go_wp2_with fail
                refine (copied_any S _ (hS30.below (by (repeat (first | exact bl_refl | assumption | (apply bl_then; assumption) | refine bl_alloc ?_ _ | refine bl_drew ?_ | refine bl_drewN ?_ _)))) lS).mono ?_
                rintro e w31 ⟨v31, rfl, hC31, hb31⟩
                go_wp2_with fail
                refine (mt _ _ (hC31.rd bc_len)).mono ?_
                rintro e w32 ⟨vU, rfl, hU32, hb32⟩
                have fhK := (hK30.below (show Below w30.heap.size w30 w32 by (repeat (first | exact bl_refl | assumption | (apply bl_then; assumption) | refine bl_alloc ?_ _ | refine bl_drew ?_ | refine bl_drewN ?_ _)))).facts
                have gx := fun W => rknot_any (2 * x + 2 * (c : Int)) (2 * y + (r : Int)) W
                by_cases hk : knotE (2 * x + 2 * (c : Int)) (2 * y + (r : Int)) = 0
                · have ms2 := fun W z (q : SlB W z U) => ms' W z hk q
                  rw [hk] at gx
                  clear hk ms'
                  go_wp2
                  refine wp_region_ords [0, 1, 2, 3, 4, 5, 6, 7, 8, 9, 10, 11, 12] [] [] (by kernel_rfl) (by kernel_rfl) (fun d _ _ _ _ h => by cases d <;> exact h) ?_
                  simp only [List.map_cons, List.map_nil, List.getD_cons_zero, List.getD_cons_succ]
                  repeat (go_big_quiet_step (fail))
                  refine wpQuiet_nil ?_
                  refine wpMid_nil ?_
                  go_wp2_with fail
                  refine (gx _).mono ?_
                  rintro e w33 ⟨rfl, hb33⟩
                  go_wp2_with fail
                  refine (copied_any U _ ((hU32.rd bc_len).below (by (repeat (first | exact bl_refl | assumption | (apply bl_then; assumption) | refine bl_alloc ?_ _ | refine bl_drew ?_ | refine bl_drewN ?_ _)))) lU).mono ?_
                  rintro e w34 ⟨v34, rfl, hC34, hb34⟩
                  go_wp2_with fail
                  refine (ms2 _ _ (hC34.rd bc_len)).mono ?_
                  rintro e w35 ⟨vR, rfl, hR35, hb35⟩
                  go_wp2_with fail
                  refine (aSame S S _ (hR35.rd bc_len) (hS30.below (by (repeat (first | exact bl_refl | assumption | (apply bl_then; assumption) | refine bl_alloc ?_ _ | refine bl_drew ?_ | refine bl_drewN ?_ _)))) rfl).mono ?_
                  rintro e w36 ⟨rfl, hb36⟩
                  go_wp2
                  go_ret
                  exact ⟨rfl, by (repeat (first | exact bl_refl | assumption | (apply bl_then; assumption) | refine bl_alloc ?_ _ | refine bl_drew ?_ | refine bl_drewN ?_ _))⟩
                · have t7 : (knotE (2 * x + 2 * (c : Int)) (2 * y + (r : Int)) != 0) = true := by simp [hk]
                  clear hk ms'
                  go_wp2
                  refine wp_region_ords [0, 1, 2, 3, 4, 5, 6, 7, 8, 9, 10, 11, 12] [] [] (by kernel_rfl) (by kernel_rfl) (fun d _ _ _ _ h => by cases d <;> exact h) ?_
                  simp only [List.map_cons, List.map_nil, List.getD_cons_zero, List.getD_cons_succ]
                  repeat (go_big_quiet_step (fail))
                  refine wpQuiet_nil ?_
                  refine wpMid_nil ?_
                  go_wp2_with fail
                  refine (gx _).mono ?_
                  rintro e w33 ⟨rfl, hb33⟩
                  go_wp2
                  go_ret
                  exact ⟨rfl, by (repeat (first | exact bl_refl | assumption | (apply bl_then; assumption) | refine bl_alloc ?_ _ | refine bl_drew ?_ | refine bl_drewN ?_ _))⟩
end Go.Proofs.YtkmjcoofkgpanaaGreatDoor
