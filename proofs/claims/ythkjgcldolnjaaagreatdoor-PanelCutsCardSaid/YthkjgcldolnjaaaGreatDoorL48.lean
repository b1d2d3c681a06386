/- Cut, walked. Conditions: none. -/
import Derived.Test.YthkjgcldolnjaaaGreatDoorL32
import Derived.Test.YthkjgcldolnjaaaGreatDoorL47
namespace Go.Proofs.YthkjgcldolnjaaaGreatDoor
open Go.RowKit Go.ChangeMaps
set_option maxHeartbeats 4000000
set_option maxRecDepth 100000

attribute [local go_sem] Oper.semAt_some
/-! # Cut -/
/-- the parts of a panel below and above letters i and k of its sides; d: how far apart the sides stand there -/
def cutA (p : Pan) (i k : Nat) : Pan := (p.1, p.2.1, plnL ((stpL p.2.2.1).take i), plnL ((stpL p.2.2.2).take k))
def cutD (p : Pan) (i k : Nat) : Int := ((outP p true).getD k (0, 0)).1 - ((outP p false).getD i (0, 0)).1
def cutB (p : Pan) (i k : Nat) : Pan := (p.1, (cutD p i k).tdiv 2, plnL ((stpL p.2.2.1).drop i), plnL ((stpL p.2.2.2).drop k))
def RP2 (w : World) (q r : Pan) (n : Int) (e : Ending) (w' : World) : Prop :=
  ∃ a b c d, e = .returned (.tuple #[.agg #[sV q.1, .int .i64 q.2.1, a, b, sV r.1, .int .i64 r.2.1, c, d], .int .i64 n]) ∧ Own ec 3 w.heap.size 100 w' a q.2.2.1 ∧ Own ec 3 w.heap.size 100 w' b q.2.2.2 ∧ Own ec 3 w.heap.size 100 w' c r.2.2.1 ∧ Own ec 3 w.heap.size 100 w' d r.2.2.2 ∧ Below w.heap.size w w'
theorem Own.pastC {α : Type} {enc : α → List Value} {sz base g : Nat} {e t : TypeId} {w w' : World} {v : Value} {l : List α} {cs : Array Value} (ho : Own enc sz base e w v l) (hB : Blk w g t cs) (ht : t ≠ e) (hc : Chg [g] w w') : Own enc sz base e w' v l := ho.chg1 hc (Ne.symm (ho.ne_blk hB ht))
theorem splitG_lt {y : Int} : ∀ (l : List Knot) (n : Nat), 0 ≤ splitG y l n → splitG y l n < (n + l.length : Nat) ∧ (n : Int) ≤ splitG y l n
  | [], n, h => by simp [splitG] at h
  | k :: l, n, h => by
    unfold splitG at h ⊢
    split
    · simp
      omega
    · rename_i hq
      rw [if_neg hq] at h
      have := splitG_lt l (n + 1) h
      rw [List.length_cons]
      omega
theorem slice_from {A : Option Addr} {c i : Nat} {l : List Stp} {w : World} (h : Rd sc 2 w A l) (hlc : l.length ≤ c) (hc : c ≤ maxLen) (hi : i ≤ l.length) :
    ∃ A1 c1, (∀ W, (Instr.slice 139 (.slice A l.length c) (some (.int .i64 i)) none none).run Tryz.prog W = .ok (.slice A1 (l.length - i) c1) W) ∧ Rd sc 2 w A1 (l.drop i) := by
  obtain ⟨A1, c1, he, _, _, hr⟩ := sl_post h hlc hi hc
  refine ⟨A1, c1, fun W => ?_, hr⟩
  have hu : Tryz.prog.underlying 139 = some (.slice (Tryz.prog.elem 139)) := by kernel_rfl
  have hs : ∀ W, (sizeOf (Tryz.prog.elem 139)).run Tryz.prog W = .ok 2 W := fun W => by kernel_rfl
  rw [run_slice_l W 139 A l.length c hu .i64 i (by omega) (by omega), hs]
  simp only [Result.andThen_ok, sliced]
  rw [List.length_drop] at he
  rw [Int.toNat_natCast]
  exact congrArg (fun v => Result.ok v W) he
theorem apiCut_bad {vL vR : Value} (p : Pan) (y : Int) (w : World) (hnm : p.1.length ≤ 1000000) (hL : SlE w vL p.2.2.1) (hR : SlE w vR p.2.2.2) (hE : panE p ≠ 0) :
    Calls Tryz.prog 44 #[.agg #[sV p.1, .int .i64 p.2.1, vL, vR], .int .i64 y] w (RP2 w panZ panZ (panE p)) := by
  have hc := fun W (hb : Below w.heap.size w W) => checkPanel_any p W hnm (hL.below hb) (hR.below hb)
  have t0 : (panE p != 0) = true := by simp [hE]
  obtain ⟨E, hEE⟩ : ∃ E, panE p = E := ⟨_, rfl⟩
  rw [hEE] at hc t0 ⊢
  obtain ⟨AL, cL, rfl, _, _, _⟩ := hL
  obtain ⟨AR, cR, rfl, _, _, _⟩ := hR
  unfold sV at hc ⊢
  have hP := (Blk.new w 29 #[.string ⟨p.1.toArray⟩, .int .i64 p.2.1, .slice AL p.2.2.1.length cL, .slice AR p.2.2.2.length cR]).alloc (.cells #[.string ⟨#[]⟩, .int .i64 0, .slice none 0 0, .slice none 0 0, .string ⟨#[]⟩, .int .i64 0, .slice none 0 0, .slice none 0 0] 74)
  have hZ := Blk.new1 w (.cells #[.string ⟨p.1.toArray⟩, .int .i64 p.2.1, .slice AL p.2.2.1.length cL, .slice AR p.2.2.2.length cR] 29) 74 #[.string ⟨#[]⟩, .int .i64 0, .slice none 0 0, .slice none 0 0, .string ⟨#[]⟩, .int .i64 0, .slice none 0 0, .slice none 0 0]
  have fhP := hP.facts
  have fhZ := hZ.facts
  clear hE hEE hnm
  go_enter Tryz.func44, Tryz.ntmps44
  go_wp2_with fail
  refine (hc _ (by (repeat first|exact J0|assumption|(apply J1;assumption)|apply J2|apply J3|apply J4))).mono ?_
  rintro e w2 ⟨rfl, hb2⟩
  replace hP := hP.below (show Below _ _ w2 by (repeat first|exact J0|assumption|(apply J1;assumption)|apply J2|apply J3|apply J4))
  replace fhP := hP.facts
  replace hZ := hZ.below (show Below _ _ w2 by (repeat first|exact J0|assumption|(apply J1;assumption)|apply J2|apply J3|apply J4))
  replace fhZ := hZ.facts
  go_wp2_with (refine wpList_store_blk hZ rfl _ _ _ rfl rfl rfl (by rfl) (by kernel_rfl) (by kernel_rfl) ?_; intro w12 hZ12 hc12; have f12 := hZ12.facts)
  refine bodyPost_ret (v := .tuple #[.agg #[.string ⟨#[]⟩, .int .i64 0, .slice none 0 0, .slice none 0 0, .string ⟨#[]⟩, .int .i64 0, .slice none 0 0, .slice none 0 0], .int .i64 E]) (by simp [results, Tryz.results44, go_sem, f12]) rfl ?_
  exact ⟨_, _, _, _, rfl, Own.nil_, Own.nil_, Own.nil_, Own.nil_, chg_bl (by (repeat first|exact J0|assumption|(apply J1;assumption)|apply J2|apply J3|apply J4)) hc12 (by omega)⟩
theorem apiCut_range {vL vR : Value} (p : Pan) (y : Int) (w : World) (hnm : p.1.length ≤ 1000000) (hL : SlE w vL p.2.2.1) (hR : SlE w vR p.2.2.2) (hE : panE p = 0) (hy : withinI y 1 (heightP p - 1) ≠ 0) :
    Calls Tryz.prog 44 #[.agg #[sV p.1, .int .i64 p.2.1, vL, vR], .int .i64 y] w (RP2 w panZ panZ (withinI y 1 (heightP p - 1))) := by
  have hc := fun W (hb : Below w.heap.size w W) => checkPanel_any p W hnm (hL.below hb) (hR.below hb)
  have hok := panE_zero hE
  have hh := fun W (hb : Below w.heap.size w W) => height_any p W (hL.below hb) (hR.below hb) hok.wid' (hok.side false)
  obtain ⟨H, hH⟩ : ∃ H : Nat, heightP p = H := ⟨(heightP p).toNat, by have := hok.high; omega⟩
  have hHb : H ≤ 256 := by have := hok.high; omega
  have hwi := fun W => pwithin_any y 1 ((H : Int) - 1) W
  rw [hE] at hc
  rw [hH] at hh hy
  rw [hH]
  obtain ⟨E, hEE⟩ : ∃ E, withinI y 1 ((H : Int) - 1) = E := ⟨_, rfl⟩
  rw [hEE] at hwi hy ⊢
  have t0 : (E != 0) = true := by simp [hy]
  obtain ⟨AL, cL, rfl, _, _, _⟩ := hL
  obtain ⟨AR, cR, rfl, _, _, _⟩ := hR
  unfold sV at hc hh ⊢
  have hP := (Blk.new w 29 #[.string ⟨p.1.toArray⟩, .int .i64 p.2.1, .slice AL p.2.2.1.length cL, .slice AR p.2.2.2.length cR]).alloc (.cells #[.string ⟨#[]⟩, .int .i64 0, .slice none 0 0, .slice none 0 0, .string ⟨#[]⟩, .int .i64 0, .slice none 0 0, .slice none 0 0] 74)
  have hZ := Blk.new1 w (.cells #[.string ⟨p.1.toArray⟩, .int .i64 p.2.1, .slice AL p.2.2.1.length cL, .slice AR p.2.2.2.length cR] 29) 74 #[.string ⟨#[]⟩, .int .i64 0, .slice none 0 0, .slice none 0 0, .string ⟨#[]⟩, .int .i64 0, .slice none 0 0, .slice none 0 0]
  have fhP := hP.facts
  have fhZ := hZ.facts
  clear hE hEE hnm hy hok hH
  go_enter Tryz.func44, Tryz.ntmps44
  go_wp2_with fail
  refine (hc _ (by (repeat first|exact J0|assumption|(apply J1;assumption)|apply J2|apply J3|apply J4))).mono ?_
  rintro e w2 ⟨rfl, hb2⟩
  replace hP := hP.below (show Below _ _ w2 by (repeat first|exact J0|assumption|(apply J1;assumption)|apply J2|apply J3|apply J4))
  replace fhP := hP.facts
  replace hZ := hZ.below (show Below _ _ w2 by (repeat first|exact J0|assumption|(apply J1;assumption)|apply J2|apply J3|apply J4))
  replace fhZ := hZ.facts
  go_wp2_with (go_at_call 76; refine (hh _ (by (repeat first|exact J0|assumption|(apply J1;assumption)|apply J2|apply J3|apply J4))).mono ?_; rintro e w3 ⟨rfl, hb3⟩; replace hP := hP.below hb3; replace hZ := hZ.below hb3; have f3 := hP.facts)
  refine (hwi _).mono ?_
  rintro e w4 ⟨rfl, hb4⟩
  replace hP := hP.below hb4
  replace hZ := hZ.below hb4
  have f4 := hP.facts
  go_wp2_with (refine wpList_store_blk hZ rfl _ _ _ rfl rfl rfl (by rfl) (by kernel_rfl) (by kernel_rfl) ?_; intro w12 hZ12 hc12; have f12 := hZ12.facts)
  refine bodyPost_ret (v := .tuple #[.agg #[.string ⟨#[]⟩, .int .i64 0, .slice none 0 0, .slice none 0 0, .string ⟨#[]⟩, .int .i64 0, .slice none 0 0, .slice none 0 0], .int .i64 E]) (by simp [results, Tryz.results44, go_sem, f12]) rfl ?_
  exact ⟨_, _, _, _, rfl, Own.nil_, Own.nil_, Own.nil_, Own.nil_, chg_bl (by (repeat first|exact J0|assumption|(apply J1;assumption)|apply J2|apply J3|apply J4)) hc12 (by omega)⟩
theorem apiCut_rule2 {vL vR : Value} (p : Pan) (y : Int) (w : World) (hnm : p.1.length ≤ 1000000) (hL : SlE w vL p.2.2.1) (hR : SlE w vR p.2.2.2) (hE : panE p = 0) (hy : withinI y 1 (heightP p - 1) = 0) (hs : splitI (outP p false) y < 0 ∨ splitI (outP p true) y < 0) :
    Calls Tryz.prog 44 #[.agg #[sV p.1, .int .i64 p.2.1, vL, vR], .int .i64 y] w (RP2 w panZ panZ 18) := by
  have hc := fun W (hb : Below w.heap.size w W) => checkPanel_any p W hnm (hL.below hb) (hR.below hb)
  have hok := panE_zero hE
  have hh := fun W (hb : Below w.heap.size w W) => height_any p W (hL.below hb) (hR.below hb) hok.wid' (hok.side false)
  obtain ⟨H, hH⟩ : ∃ H : Nat, heightP p = H := ⟨(heightP p).toNat, by have := hok.high; omega⟩
  have hHb : H ≤ 256 := by have := hok.high; omega
  have hwi := fun W => pwithin_any y 1 ((H : Int) - 1) W
  rw [hE] at hc
  rw [hH] at hh hy
  rw [hy] at hwi
  have o1 := fun W (hb : Below w.heap.size w W) => outline_any p false W (hL.below hb) (hR.below hb) hok.wid' (hok.side false)
  have o2 := fun W (hb : Below w.heap.size w W) => outline_any p true W (hL.below hb) (hR.below hb) hok.wid' (hok.side true)
  have l1 := out_len p false (hok.side false)
  have l2 := out_len p true (hok.side true)
  obtain ⟨O1, hO1⟩ : ∃ O, outP p false = O := ⟨_, rfl⟩
  obtain ⟨O2, hO2⟩ : ∃ O, outP p true = O := ⟨_, rfl⟩
  rw [hO1] at o1 l1 hs
  rw [hO2] at o2 l2 hs
  have hq1 := fun A c W h => pspl_any O1 A c y W h (by omega)
  have hq2 := fun A c W h => pspl_any O2 A c y W h (by omega)
  obtain ⟨S1, hS1⟩ : ∃ S, splitI O1 y = S := ⟨_, rfl⟩
  obtain ⟨S2, hS2⟩ : ∃ S, splitI O2 y = S := ⟨_, rfl⟩
  rw [hS1] at hs hq1
  rw [hS2] at hs hq2
  clear hy hO1 hO2 hS1 hS2 hE hH hok hnm
  obtain ⟨AL, cL, rfl, _, _, _⟩ := hL
  obtain ⟨AR, cR, rfl, _, _, _⟩ := hR
  unfold sV at hc o1 o2 hh ⊢
  have hP := (Blk.new w 29 #[.string ⟨p.1.toArray⟩, .int .i64 p.2.1, .slice AL p.2.2.1.length cL, .slice AR p.2.2.2.length cR]).alloc (.cells #[.string ⟨#[]⟩, .int .i64 0, .slice none 0 0, .slice none 0 0, .string ⟨#[]⟩, .int .i64 0, .slice none 0 0, .slice none 0 0] 74)
  have hZ := Blk.new1 w (.cells #[.string ⟨p.1.toArray⟩, .int .i64 p.2.1, .slice AL p.2.2.1.length cL, .slice AR p.2.2.2.length cR] 29) 74 #[.string ⟨#[]⟩, .int .i64 0, .slice none 0 0, .slice none 0 0, .string ⟨#[]⟩, .int .i64 0, .slice none 0 0, .slice none 0 0]
  have fhP := hP.facts
  have fhZ := hZ.facts
  go_enter Tryz.func44, Tryz.ntmps44
  go_wp2_with fail
  refine (hc _ (by (repeat first|exact J0|assumption|(apply J1;assumption)|apply J2|apply J3|apply J4))).mono ?_
  rintro e w2 ⟨rfl, hb2⟩
  replace hP := hP.below (show Below _ _ w2 by (repeat first|exact J0|assumption|(apply J1;assumption)|apply J2|apply J3|apply J4))
  replace fhP := hP.facts
  replace hZ := hZ.below (show Below _ _ w2 by (repeat first|exact J0|assumption|(apply J1;assumption)|apply J2|apply J3|apply J4))
  replace fhZ := hZ.facts
  go_wp2_with (go_at_call 76; refine (hh _ (by (repeat first|exact J0|assumption|(apply J1;assumption)|apply J2|apply J3|apply J4))).mono ?_; rintro e w3 ⟨rfl, hb3⟩; replace hP := hP.below hb3; replace hZ := hZ.below hb3; have f3 := hP.facts)
  refine (hwi _).mono ?_
  rintro e w4 ⟨rfl, hb4⟩
  replace hP := hP.below hb4
  replace hZ := hZ.below hb4
  have f4 := hP.facts
  have hbw4 : Below w.heap.size w w4 := by (repeat first|exact J0|assumption|(apply J1;assumption)|apply J2|apply J3|apply J4)
  clear hh hc hwi f3 fhP fhZ hb2 hb3 hb4
  go_upto_region 7 with fail
  refine wp_region_ords [0, 2] [(1, false)] [3, 4, 5] (by kernel_rfl) (by kernel_rfl) (fun d _ _ _ _ h => by cases d <;> exact h) ?_
  simp only [List.map_cons, List.map_nil, List.getD_cons_zero, List.getD_cons_succ]
  repeat (go_big_quiet_step (fail))
  refine wpQuiet_nil ?_
  refine wpMid_run rfl (fun K hK => ?_)
  go_simp
  refine (o1 _ (by (repeat first|exact J0|assumption|(apply J1;assumption)|apply J2|apply J3|apply J4))).mono ?_
  rintro e w8 ⟨v8, rfl, hO8, hb8⟩
  refine hK _ _ (by (repeat first|exact J0|assumption|(apply J1;assumption)|apply J2|apply J3|apply J4)) ?_
  clear hK K
  have hP_w8 := hP.below (show Below _ _ w8 by (repeat first|exact J0|assumption|(apply J1;assumption)|apply J2|apply J3|apply J4))
  have fhP_w8 := hP_w8.facts
  have hZ_w8 := hZ.below (show Below _ _ w8 by (repeat first|exact J0|assumption|(apply J1;assumption)|apply J2|apply J3|apply J4))
  have fhZ_w8 := hZ_w8.facts
  obtain ⟨A8, c8, rfl⟩ := hO8.shape
  refine wpMid_nil ?_
  go_wp2_with (go_at_call 64; refine (o2 _ (by (repeat first|exact J0|assumption|(apply J1;assumption)|apply J2|apply J3|apply J4))).mono ?_; rintro e w9 ⟨v9, rfl, hO9, hb9⟩; obtain ⟨A9, c9, rfl⟩ := hO9.shape)
  have hb49 : Below w4.heap.size w4 w9 := by (repeat first|exact J0|assumption|(apply J1;assumption)|apply J2|apply J3|apply J4)
  have hP9 := hP_w8.below hb9
  have hZ9 := hZ_w8.below hb9
  have hr8 := ((hO8.rd kc_len).below hb9).rd_
  have hr9 := (hO9.rd kc_len).rd_
  refine (hq1 _ _ _ hr8).mono ?_
  rintro e w10 ⟨rfl, hb10⟩
  have hx : (S1 < 0) = True ∨ ((S1 < 0) = False ∧ (S2 < 0) = True) := by
    by_cases h : S1 < 0
    · exact .inl (eq_true h)
    · exact .inr ⟨eq_false h, eq_true (hs.resolve_left h)⟩
  clear hs
  rcases hx with t1 | ⟨t1, t2⟩
  all_goals
    go_wp2_with (first | (go_at_call 93; refine (hq2 _ _ _ (hr9.below hb10)).mono ?_; rintro e w11 ⟨rfl, hb11⟩; have hZ11 := (hZ9.below hb10).below hb11) | (refine wpList_store_blk hZ11 rfl _ _ _ rfl rfl rfl (by rfl) (by kernel_rfl) (by kernel_rfl) ?_; intro w12 hZ12 hc12; have f12 := hZ12.facts))
    have hb11w : Below w.heap.size w w11 := bl_then hb11 (bl_then hb10 (bl_then hb49 hbw4))
    refine bodyPost_ret (v := .tuple #[.agg #[.string ⟨#[]⟩, .int .i64 0, .slice none 0 0, .slice none 0 0, .string ⟨#[]⟩, .int .i64 0, .slice none 0 0, .slice none 0 0], .int .i64 18]) (by simp [results, Tryz.results44, go_sem, f12]) rfl ?_
    exact ⟨_, _, _, _, rfl, Own.nil_, Own.nil_, Own.nil_, Own.nil_, chg_bl hb11w hc12 (by omega)⟩
theorem apiCut_main {vL vR : Value} (p : Pan) (y : Int) (w : World) (hnm : p.1.length ≤ 1000000) (hL : SlE w vL p.2.2.1) (hR : SlE w vR p.2.2.2) (hE : panE p = 0) (hy : withinI y 1 (heightP p - 1) = 0) (i k : Nat) (hi : splitI (outP p false) y = i) (hk : splitI (outP p true) y = k) :
    Calls Tryz.prog 44 #[.agg #[sV p.1, .int .i64 p.2.1, vL, vR], .int .i64 y] w (RP2 w (if panE (cutA p i k) = 0 ∧ panE (cutB p i k) = 0 then cutA p i k else panZ) (if panE (cutA p i k) = 0 ∧ panE (cutB p i k) = 0 then cutB p i k else panZ) (firstI [panE (cutA p i k), panE (cutB p i k)])) := by
  have hc := fun W (hb : Below w.heap.size w W) => checkPanel_any p W hnm (hL.below hb) (hR.below hb)
  have hok := panE_zero hE
  have hh := fun W (hb : Below w.heap.size w W) => height_any p W (hL.below hb) (hR.below hb) hok.wid' (hok.side false)
  obtain ⟨H, hH⟩ : ∃ H : Nat, heightP p = H := ⟨(heightP p).toNat, by have := hok.high; omega⟩
  have hHb : H ≤ 256 := by have := hok.high; omega
  have hwi := fun W => pwithin_any y 1 ((H : Int) - 1) W
  rw [hE] at hc
  rw [hH] at hh hy
  rw [hy] at hwi
  have o1 := fun W (hb : Below w.heap.size w W) => outline_any p false W (hL.below hb) (hR.below hb) hok.wid' (hok.side false)
  have o2 := fun W (hb : Below w.heap.size w W) => outline_any p true W (hL.below hb) (hR.below hb) hok.wid' (hok.side true)
  have l1 := out_len p false (hok.side false)
  have l2 := out_len p true (hok.side true)
  have hi2 : i < (outP p false).length := by have := (splitG_lt (outP p false) 0 (by show (0 : Int) ≤ splitI (outP p false) y; omega)).1; have e : splitG y (outP p false) 0 = i := hi; omega
  have hk2 : k < (outP p true).length := by have := (splitG_lt (outP p true) 0 (by show (0 : Int) ≤ splitI (outP p true) y; omega)).1; have e : splitG y (outP p true) 0 = k := hk; omega
  have el1 : (outP p false).length = (stpL p.2.2.1).length + 1 := outK_len _ _ _
  have el2 : (outP p true).length = (stpL p.2.2.2).length + 1 := outK_len _ _ _
  have hi3 : i ≤ (stpL p.2.2.1).length := by omega
  have hk3 : k ≤ (stpL p.2.2.2).length := by omega
  have ll := hok.left.len
  have lr := hok.right.len
  have tl := hok.left.ltrs
  have tr := hok.right.ltrs
  have g1 : (outP p false)[i]? = some ((outP p false).getD i (0, 0)) := by rw [List.getD_eq_getElem?_getD, List.getElem?_eq_getElem hi2]; rfl
  have g2 : (outP p true)[k]? = some ((outP p true).getD k (0, 0)) := by rw [List.getD_eq_getElem?_getD, List.getElem?_eq_getElem hk2]; rfl
  have n1 := (hok.asc false).near i hi2
  have n2 := (hok.asc true).near k hk2
  have gg1 : (outP p false)[i] = (outP p false).getD i (0, 0) := by rw [List.getElem?_eq_getElem hi2] at g1; exact Option.some.inj g1
  have gg2 : (outP p true)[k] = (outP p true).getD k (0, 0) := by rw [List.getElem?_eq_getElem hk2] at g2; exact Option.some.inj g2
  rw [gg1] at n1
  rw [gg2] at n2
  have hch := fun W vl vr hl hr => checked_any (vL := vl) (vR := vr) (cutA p i k) W hnm hl hr
  have hcg := fun W vl vr hl hr => checked_any (vL := vl) (vR := vr) (cutB p i k) W hnm hl hr
  have hq1 := fun A c W h => pspl_any (outP p false) A c y W h (by omega)
  have hq2 := fun A c W h => pspl_any (outP p true) A c y W h (by omega)
  rw [hi] at hq1
  rw [hk] at hq2
  obtain ⟨AL, cL, rfl, _, _, rL⟩ := hL
  obtain ⟨AR, cR, rfl, _, _, rR⟩ := hR
  have kL := fun B W (hB : Blk W B 27 #[.slice AL p.2.2.1.length cL]) (hb : Below w.heap.size w W) => collectS_any B AL cL p.2.2.1 hok.left.sideOk W hB (rL.below hb)
  have kR := fun B W (hB : Blk W B 27 #[.slice AR p.2.2.2.length cR]) (hb : Below w.heap.size w W) => collectS_any B AR cR p.2.2.2 hok.right.sideOk W hB (rR.below hb)
  have HA : Hid (cutA p i k = (p.1, p.2.1, plnL ((stpL p.2.2.1).take i), plnL ((stpL p.2.2.2).take k))) := rfl
  have HB : Hid (cutB p i k = (p.1, (((outP p true).getD k (0, 0)).1 - ((outP p false).getD i (0, 0)).1).tdiv 2, plnL ((stpL p.2.2.1).drop i), plnL ((stpL p.2.2.2).drop k))) := rfl
  obtain ⟨SL, hSL⟩ : ∃ z, stpL p.2.2.1 = z := ⟨_, rfl⟩
  obtain ⟨SR, hSR⟩ : ∃ z, stpL p.2.2.2 = z := ⟨_, rfl⟩
  rw [hSL] at kL HA HB hi3 ll tl
  rw [hSR] at kR HA HB hk3 lr tr
  obtain ⟨⟨xi, yi⟩, hI⟩ : ∃ z, (outP p false).getD i (0, 0) = z := ⟨_, rfl⟩
  obtain ⟨⟨xk, yk⟩, hK⟩ : ∃ z, (outP p true).getD k (0, 0) = z := ⟨_, rfl⟩
  rw [hI] at HB n1 gg1
  rw [hK] at HB n2 gg2
  obtain ⟨O1, hO1⟩ : ∃ O, outP p false = O := ⟨_, rfl⟩
  obtain ⟨O2, hO2⟩ : ∃ O, outP p true = O := ⟨_, rfl⟩
  have hi4 : i < O1.length := by rw [← hO1]; exact hi2
  have hk4 : k < O2.length := by rw [← hO2]; exact hk2
  have gi : O1[i]'hi4 = (xi, yi) := by subst hO1; exact gg1
  have gk : O2[k]'hk4 = (xk, yk) := by subst hO2; exact gg2
  rw [hO1] at o1 l1 hq1
  rw [hO2] at o2 l2 hq2
  simp only at n1 n2
  have pA1 := fun A c W (hr : Rd sc 2 W A SL) => plain_any (SL.take i) A c W (hr.take_ i) (by rw [List.length_take]; omega) (fun x hx => tl x (List.mem_of_mem_take hx))
  have pA2 := fun A c W (hr : Rd sc 2 W A SR) => plain_any (SR.take k) A c W (hr.take_ k) (by rw [List.length_take]; omega) (fun x hx => tr x (List.mem_of_mem_take hx))
  have pB1 := fun A c W (hr : Rd sc 2 W A (SL.drop i)) => plain_any (SL.drop i) A c W hr (by rw [List.length_drop]; omega) (fun x hx => tl x (List.mem_of_mem_drop hx))
  have pB2 := fun A c W (hr : Rd sc 2 W A (SR.drop k)) => plain_any (SR.drop k) A c W hr (by rw [List.length_drop]; omega) (fun x hx => tr x (List.mem_of_mem_drop hx))
  rw [List.length_take, Nat.min_eq_left hi3] at pA1
  rw [List.length_take, Nat.min_eq_left hk3] at pA2
  rw [List.length_drop] at pB1 pB2
  have hown1 := fun base W w' (a b : Value) h1 h2 h3 => checked_own (vL := a) (vR := b) (base := base) (cutA p i k) W w' h1 h2 h3
  have hown2 := fun base W w' (a b : Value) h1 h2 h3 => checked_own (vL := a) (vR := b) (base := base) (cutB p i k) W w' h1 h2 h3
  have HQA : Hid (pcR 0 (cutA p i k) = if panE (cutA p i k) = 0 then cutA p i k else panZ) := by unfold Hid pcR; rw [show pcE 0 (cutA p i k) = panE (cutA p i k) from if_neg (by simp)]
  have HQB : Hid (pcR 0 (cutB p i k) = if panE (cutB p i k) = 0 then cutB p i k else panZ) := by unfold Hid pcR; rw [show pcE 0 (cutB p i k) = panE (cutB p i k) from if_neg (by simp)]
  obtain ⟨CA, hCA⟩ : ∃ z, cutA p i k = z := ⟨_, rfl⟩
  obtain ⟨CB, hCB⟩ : ∃ z, cutB p i k = z := ⟨_, rfl⟩
  rw [hCA] at HA hch hown1 HQA ⊢
  rw [hCB] at HB hcg hown2 HQB ⊢
  obtain ⟨EA, hEA⟩ : ∃ z, panE CA = z := ⟨_, rfl⟩
  obtain ⟨EB, hEB⟩ : ∃ z, panE CB = z := ⟨_, rfl⟩
  rw [hEA] at hch HQA ⊢
  rw [hEB] at hcg HQB ⊢
  obtain ⟨QA, hQA⟩ : ∃ z, pcR 0 CA = z := ⟨_, rfl⟩
  obtain ⟨QB, hQB⟩ : ∃ z, pcR 0 CB = z := ⟨_, rfl⟩
  rw [hQA] at HQA hown1
  rw [hQB] at HQB hown2
  obtain ⟨F1, hF1⟩ : ∃ z, (if EA = 0 ∧ EB = 0 then CA else panZ) = z := ⟨_, rfl⟩
  obtain ⟨F2, hF2⟩ : ∃ z, (if EA = 0 ∧ EB = 0 then CB else panZ) = z := ⟨_, rfl⟩
  obtain ⟨FE, hFE⟩ : ∃ z, firstI [EA, EB] = z := ⟨_, rfl⟩
  rw [hF1, hF2, hFE]
  have HF1 := Lib.hid hF1
  have HF2 := Lib.hid hF2
  have HFE := Lib.hid hFE
  clear hF1 hF2 hFE
  have hA := HA.out
  subst hA
  have hB := HB.out
  subst hB
  simp only at hch hcg hown1 hown2
  obtain ⟨nl, hnl⟩ : ∃ z, SL.length = z := ⟨_, rfl⟩
  obtain ⟨nr, hnr⟩ : ∃ z, SR.length = z := ⟨_, rfl⟩
  rw [hnl] at pB1 ll hi3
  rw [hnr] at pB2 lr hk3
  have hs : sV p.1 = .string ⟨p.1.toArray⟩ := rfl
  rw [hs] at hc o1 o2 hh ⊢
  simp only [hs] at hch hcg
  clear hs
  obtain ⟨n11, n12⟩ := n1
  obtain ⟨n21, n22⟩ := n2
  have hP := (Blk.new w 29 #[.string ⟨p.1.toArray⟩, .int .i64 p.2.1, .slice AL p.2.2.1.length cL, .slice AR p.2.2.2.length cR]).alloc (.cells #[.string ⟨#[]⟩, .int .i64 0, .slice none 0 0, .slice none 0 0, .string ⟨#[]⟩, .int .i64 0, .slice none 0 0, .slice none 0 0] 74)
  have hZ := Blk.new1 w (.cells #[.string ⟨p.1.toArray⟩, .int .i64 p.2.1, .slice AL p.2.2.1.length cL, .slice AR p.2.2.2.length cR] 29) 74 #[.string ⟨#[]⟩, .int .i64 0, .slice none 0 0, .slice none 0 0, .string ⟨#[]⟩, .int .i64 0, .slice none 0 0, .slice none 0 0]
  have fhP := hP.facts
  have fhZ := hZ.facts
  clear hy hO1 hO2 hi hk hi2 hk2 el1 el2 hE hH hok hnm hSL hSR hI hK gg1 gg2 g1 g2 tl tr hCA hCB hEA hEB hQA hQB HA HB rL rR
  go_enter Tryz.func44, Tryz.ntmps44
  go_wp2_with fail
  refine (hc _ (by (repeat first|exact J0|assumption|(apply J1;assumption)|apply J2|apply J3|apply J4))).mono ?_
  rintro e w2 ⟨rfl, hb2⟩
  replace hP := hP.below (show Below _ _ w2 by (repeat first|exact J0|assumption|(apply J1;assumption)|apply J2|apply J3|apply J4))
  replace fhP := hP.facts
  replace hZ := hZ.below (show Below _ _ w2 by (repeat first|exact J0|assumption|(apply J1;assumption)|apply J2|apply J3|apply J4))
  replace fhZ := hZ.facts
  go_wp2_with (go_at_call 76; refine (hh _ (by (repeat first|exact J0|assumption|(apply J1;assumption)|apply J2|apply J3|apply J4))).mono ?_; rintro e w3 ⟨rfl, hb3⟩; replace hP := hP.below hb3; replace hZ := hZ.below hb3; have f3 := hP.facts)
  refine (hwi _).mono ?_
  rintro e w4 ⟨rfl, hb4⟩
  replace hP := hP.below hb4
  replace hZ := hZ.below hb4
  have f4 := hP.facts
  have hbw4 : Below w.heap.size w w4 := by (repeat first|exact J0|assumption|(apply J1;assumption)|apply J2|apply J3|apply J4)
  clear hh hc hwi f3 fhP fhZ hb2 hb3 hb4
  go_upto_region 7 with fail
  refine wp_region_ords [0, 2] [(1, false)] [3, 4, 5] (by kernel_rfl) (by kernel_rfl) (fun d _ _ _ _ h => by cases d <;> exact h) ?_
  simp only [List.map_cons, List.map_nil, List.getD_cons_zero, List.getD_cons_succ]
  repeat (go_big_quiet_step (fail))
  refine wpQuiet_nil ?_
  refine wpMid_run rfl (fun K hK => ?_)
  go_simp
  refine (o1 _ (by (repeat first|exact J0|assumption|(apply J1;assumption)|apply J2|apply J3|apply J4))).mono ?_
  rintro e w8 ⟨v8, rfl, hO8, hb8⟩
  refine hK _ _ (by (repeat first|exact J0|assumption|(apply J1;assumption)|apply J2|apply J3|apply J4)) ?_
  clear hK K
  have hP_w8 := hP.below (show Below _ _ w8 by (repeat first|exact J0|assumption|(apply J1;assumption)|apply J2|apply J3|apply J4))
  have fhP_w8 := hP_w8.facts
  have hZ_w8 := hZ.below (show Below _ _ w8 by (repeat first|exact J0|assumption|(apply J1;assumption)|apply J2|apply J3|apply J4))
  have fhZ_w8 := hZ_w8.facts
  obtain ⟨A8, c8, rfl⟩ := hO8.shape
  refine wpMid_nil ?_
  go_wp2_with (go_at_call 64; refine (o2 _ (by (repeat first|exact J0|assumption|(apply J1;assumption)|apply J2|apply J3|apply J4))).mono ?_; rintro e w9 ⟨v9, rfl, hO9, hb9⟩; obtain ⟨A9, c9, rfl⟩ := hO9.shape)
  have hb49 : Below w4.heap.size w4 w9 := by (repeat first|exact J0|assumption|(apply J1;assumption)|apply J2|apply J3|apply J4)
  have hP9 := hP_w8.below hb9
  have hZ9 := hZ_w8.below hb9
  have hr8 := ((hO8.rd kc_len).below hb9).rd_
  have hr9 := (hO9.rd kc_len).rd_
  refine (hq1 _ _ _ hr8).mono ?_
  rintro e w10 ⟨rfl, hb10⟩
  go_wp2_with fail
  refine (hq2 _ _ _ (hr9.below hb10)).mono ?_
  rintro e w11 ⟨rfl, hb11⟩
  have hP11 := (hP9.below hb10).below hb11
  have hZ11 := (hZ9.below hb10).below hb11
  have s8 := (hr8.below hb10).below hb11
  have s9 := (hr9.below hb10).below hb11
  have hW11 : Below w.heap.size w w11 := bl_then hb11 (bl_then hb10 (bl_then hb49 hbw4))
  have t1 : ((i : Int) < 0) = False := eq_false (by omega)
  have t2 : ((k : Int) < 0) = False := eq_false (by omega)
  have fP11 := hP11.facts
  have HW := Lib.hid hW11
  clear hP hZ hP_w8 hZ_w8 hP9 hZ9 hr8 hr9 hb10 hb11 hb49 hbw4 hO8 hO9 hb8 hb9 hW11 f4
  go_upto_region 11 with fail
  refine wp_region_ords [0, 1, 4, 5] [(2, false), (3, false)] [6, 7, 8, 9] (by kernel_rfl) (by kernel_rfl) (fun d _ _ _ _ h => by cases d <;> exact h) ?_
  simp only [List.map_cons, List.map_nil, List.getD_cons_zero, List.getD_cons_succ]
  repeat (go_big_quiet_step (fail))
  refine wpQuiet_nil ?_
  refine wpMid_run rfl (fun K hK => ?_)
  go_simp
  refine (lettersB_any _ _ _ _).mono ?_
  rintro e w12 ⟨B12, rfl, hB12, hb12⟩
  refine hK _ _ (by (repeat first|exact J0|assumption|(apply J1;assumption)|apply J2|apply J3|apply J4)) ?_
  clear hK K
  have hP11_w12 := hP11.below (show Below _ _ w12 by (repeat first|exact J0|assumption|(apply J1;assumption)|apply J2|apply J3|apply J4))
  have fhP11_w12 := hP11_w12.facts
  have hZ11_w12 := hZ11.below (show Below _ _ w12 by (repeat first|exact J0|assumption|(apply J1;assumption)|apply J2|apply J3|apply J4))
  have fhZ11_w12 := hZ11_w12.facts
  refine wpMid_run rfl (fun K hK => ?_)
  go_simp
  refine (kL _ _ hB12 (bl_then (by (repeat first|exact J0|assumption|(apply J1;assumption)|apply J2|apply J3|apply J4)) HW.out)).mono ?_
  rintro e w13 ⟨v13, rfl, hO13, hb13⟩
  refine hK _ _ (by (repeat first|exact J0|assumption|(apply J1;assumption)|apply J2|apply J3|apply J4)) ?_
  clear hK K
  have hP11_w13 := hP11.below (show Below _ _ w13 by (repeat first|exact J0|assumption|(apply J1;assumption)|apply J2|apply J3|apply J4))
  have fhP11_w13 := hP11_w13.facts
  have hZ11_w13 := hZ11.below (show Below _ _ w13 by (repeat first|exact J0|assumption|(apply J1;assumption)|apply J2|apply J3|apply J4))
  have fhZ11_w13 := hZ11_w13.facts
  refine wpMid_nil ?_
  go_wp2_with fail
  refine (lettersB_any _ _ _ _).mono ?_
  rintro e w14 ⟨B14, rfl, hB14, hb14⟩
  go_wp2_with fail
  refine (kR _ _ hB14 (bl_then (by (repeat first|exact J0|assumption|(apply J1;assumption)|apply J2|apply J3|apply J4)) HW.out)).mono ?_
  rintro e w15 ⟨v15, rfl, hO15, hb15⟩
  go_upto_region 12 with fail
  obtain ⟨A13, c13, rfl, hl13, hm13, rl⟩ := (hO13.rd sc_len).below (show Below w13.heap.size w13 w15 by (repeat first|exact J0|assumption|(apply J1;assumption)|apply J2|apply J3|apply J4))
  obtain ⟨A15, c15, rfl, hl15, hm15, rr⟩ := hO15.rd sc_len
  have hx15 : Below w11.heap.size w11 w15 := by (repeat first|exact J0|assumption|(apply J1;assumption)|apply J2|apply J3|apply J4)
  have hP15 := hP11.below hx15
  have hzw0 : w.heap.size + 1 < w11.heap.size := hZ11.lt
  have hZ15 := hZ11.below hx15
  have s8b := s8.below hx15
  have s9b := s9.below hx15
  have HW15 := Lib.hid (bl_then hx15 HW.out)
  have hz15 := hx15.size
  clear hP11 hZ11 hP11_w12 hZ11_w12 hP11_w13 hZ11_w13 hb12 hb13 hb14 hb15 hB12 hB14 hO13 hO15 hx15 HW kL kR s8 s9 fP11 fhP11_w12 fhP11_w13 fhZ11_w12 fhZ11_w13
  rw [hnl] at hl13 ⊢
  rw [hnr] at hl15 ⊢
  have hic : i ≤ c13 := by omega
  have hkc : k ≤ c15 := by omega
  have fP15 := hP15.facts
  go_upto_region 12 with fail
  go_cut [14, 15] from 57 ((fun s14 s15 wx => ∃ g A c B d, s14 = .pointer (some ⟨g, 0, none⟩) ∧ s15 = .int .i64 EA ∧ Blk wx g 29 #[.string ⟨QA.1.toArray⟩, .int .i64 QA.2.1, .slice A QA.2.2.1.length c, .slice B QA.2.2.2.length d] ∧ Own ec 3 w15.heap.size 100 wx (.slice A QA.2.2.1.length c) QA.2.2.1 ∧ Own ec 3 w15.heap.size 100 wx (.slice B QA.2.2.2.length d) QA.2.2.2 ∧ Below w15.heap.size w15 wx))
  case first =>
    refine wp_region_tree [0, 1, 2, 3, 4, 5, 6, 8, 9, 10] (.alt (.br 7 (.alt (.br 11 (.take 12 (.alt (.br 13 (.take 14 (.take 15 (.take 16 (.alt (.br 17 (.alt (.br 18 (.fin) (.stop))) (.stop)))))) (.br 17 (.alt (.br 13 (.take 14 (.take 15 (.take 16 (.alt (.br 18 (.fin) (.stop)))))) (.stop))) (.stop))))) (.br 17 (.alt (.br 11 (.take 12 (.alt (.br 13 (.take 14 (.take 15 (.take 16 (.alt (.br 18 (.fin) (.stop)))))) (.stop)))) (.stop))) (.stop)))) (.br 17 (.alt (.br 7 (.alt (.br 11 (.take 12 (.alt (.br 13 (.take 14 (.take 15 (.take 16 (.alt (.br 18 (.fin) (.stop)))))) (.stop)))) (.stop))) (.stop))) (.stop)))) [19] (by kernel_rfl) (by kernel_rfl) (fun d _ _ _ _ h => by cases d <;> exact h) ?_
    simp only [List.map_cons, List.map_nil, List.getD_cons_zero, List.getD_cons_succ]
    repeat (go_big_quiet_step (fail))
    refine wpQuiet_nil ?_
    refine wpTree_alt (wpTree_br rfl rfl ?_ (wpTree_br rfl rfl ?_ wpTree_stop))
    · intro K hK
      go_simp
      refine (pA1 _ _ _ (rl.below (by (repeat first|exact J0|assumption|(apply J1;assumption)|apply J2|apply J3|apply J4)))).mono ?_
      rintro e w16 ⟨v16, rfl, hO16, hb16⟩
      refine hK _ _ (by (repeat first|exact J0|assumption|(apply J1;assumption)|apply J2|apply J3|apply J4)) ?_
      clear hK K
      obtain ⟨A16, c16, rfl⟩ := hO16.shape
      refine wpTree_alt (wpTree_br rfl rfl ?_ (wpTree_br rfl rfl ?_ wpTree_stop))
      · intro K hK
        go_simp
        refine (pA2 _ _ _ (rr.below (by (repeat first|exact J0|assumption|(apply J1;assumption)|apply J2|apply J3|apply J4)))).mono ?_
        rintro e w17 ⟨v17, rfl, hO17, hb17⟩
        refine hK _ _ (by (repeat first|exact J0|assumption|(apply J1;assumption)|apply J2|apply J3|apply J4)) ?_
        clear hK K
        obtain ⟨A17, c17, rfl⟩ := hO17.shape
        refine wpTree_take rfl rfl ?_; intro K hK; simp only [Array.getD_eq_getD_getElem?, List.getElem?_toArray, List.getElem?_cons_succ, List.getElem?_cons_zero, Option.getD_some]; go_big_quiet_op; go_big_quiet_on
        refine wpTree_alt (wpTree_br rfl rfl ?_ (wpTree_br rfl rfl ?_ wpTree_stop))
        · intro K hK
          go_simp
          refine (hch _ _ _ ((hO16.rd ec_len).below (by (repeat first|exact J0|assumption|(apply J1;assumption)|apply J2|apply J3|apply J4))) ((hO17.rd ec_len).below (by (repeat first|exact J0|assumption|(apply J1;assumption)|apply J2|apply J3|apply J4)))).mono ?_
          rintro e w18 ⟨rfl, hb18⟩
          refine hK _ _ (by (repeat first|exact J0|assumption|(apply J1;assumption)|apply J2|apply J3|apply J4)) ?_
          clear hK K
          obtain ⟨A7, c7, A77, c77, hcv, hu1, hu2⟩ := hown1 w15.heap.size _ w18 _ _ ((hO16.below (by (repeat first|exact J0|assumption|(apply J1;assumption)|apply J2|apply J3|apply J4))).base_mono (Below.size (by (repeat first|exact J0|assumption|(apply J1;assumption)|apply J2|apply J3|apply J4)))) ((hO17.below (by (repeat first|exact J0|assumption|(apply J1;assumption)|apply J2|apply J3|apply J4))).base_mono (Below.size (by (repeat first|exact J0|assumption|(apply J1;assumption)|apply J2|apply J3|apply J4)))) hb18
          rw [hcv]
          refine wpTree_take rfl rfl ?_; intro K hK; simp only [Array.getD_eq_getD_getElem?, List.getElem?_toArray, List.getElem?_cons_succ, List.getElem?_cons_zero, Option.getD_some]; go_big_quiet_op; go_big_quiet_on
          refine wpTree_take rfl rfl ?_; intro K hK; simp only [Array.getD_eq_getD_getElem?, List.getElem?_toArray, List.getElem?_cons_succ, List.getElem?_cons_zero, Option.getD_some]; go_big_quiet_op; go_big_quiet_on
          refine wpTree_take rfl rfl ?_; intro K hK; simp only [Array.getD_eq_getD_getElem?, List.getElem?_toArray, List.getElem?_cons_succ, List.getElem?_cons_zero, Option.getD_some]; go_big_quiet_op; go_big_quiet_on
          refine wpTree_alt (wpTree_br rfl rfl ?_ wpTree_stop)
          have hS0 := Blk.new (w18) 29 #[.string ⟨#[]⟩, .int .i64 0, .slice none 0 0, .slice none 0 0]
          intro K hK
          go_simp
          refine hK _ _ (by (repeat first|exact J0|assumption|(apply J1;assumption)|apply J2|apply J3|apply J4)) ?_
          clear hK K
          refine wpTree_alt (wpTree_br rfl rfl ?_ wpTree_stop)
          have hS1 := hS0.below (show Below _ _ (w18.alloc (.cells #[.string ⟨#[]⟩, .int .i64 0, .slice none 0 0, .slice none 0 0] 29)) by (repeat first|exact J0|assumption|(apply J1;assumption)|apply J2|apply J3|apply J4))
          intro K hK
          simp only [Array.getD_eq_getD_getElem?, List.getElem?_toArray, List.getElem?_cons_succ, List.getElem?_cons_zero, Option.getD_some]
          refine op_store_blk hS1 _ _ _ rfl rfl rfl rfl (by kernel_rfl) (by kernel_rfl) ?_
          intro w7 hS7 hc7
          have hg7 : w15.heap.size ≤ (w18).heap.size := Below.size (show Below w15.heap.size w15 (w18) by (repeat first|exact J0|assumption|(apply J1;assumption)|apply J2|apply J3|apply J4))
          have hb7 : Below w15.heap.size w15 w7 := chg_bl (by (repeat first|exact J0|assumption|(apply J1;assumption)|apply J2|apply J3|apply J4)) hc7 hg7
          refine hK _ _ (chg_bl (by (repeat first|exact J0|assumption|(apply J1;assumption)|apply J2|apply J3|apply J4)) hc7 (by first | exact Nat.le_refl _ | exact hg7)) ?_
          clear hK K
          refine wpTree_fin ?_
          go_wp2_with fail
          go_meet
          case rel => exact ⟨((w18).heap.size), A7, c7, A77, c77, rfl, rfl, hS7, (hu1.below (by (repeat first|exact J0|assumption|(apply J1;assumption)|apply J2|apply J3|apply J4))).pastC hS1 (by decide) hc7, (hu2.below (by (repeat first|exact J0|assumption|(apply J1;assumption)|apply J2|apply J3|apply J4))).pastC hS1 (by decide) hc7, hb7⟩
        · have hS0 := Blk.new (w17) 29 #[.string ⟨#[]⟩, .int .i64 0, .slice none 0 0, .slice none 0 0]
          intro K hK
          go_simp
          refine hK _ _ (by (repeat first|exact J0|assumption|(apply J1;assumption)|apply J2|apply J3|apply J4)) ?_
          clear hK K
          refine wpTree_alt (wpTree_br rfl rfl ?_ wpTree_stop)
          intro K hK
          go_simp
          refine (hch _ _ _ ((hO16.rd ec_len).below (by (repeat first|exact J0|assumption|(apply J1;assumption)|apply J2|apply J3|apply J4))) ((hO17.rd ec_len).below (by (repeat first|exact J0|assumption|(apply J1;assumption)|apply J2|apply J3|apply J4)))).mono ?_
          rintro e w18 ⟨rfl, hb18⟩
          refine hK _ _ (by (repeat first|exact J0|assumption|(apply J1;assumption)|apply J2|apply J3|apply J4)) ?_
          clear hK K
          obtain ⟨A7, c7, A77, c77, hcv, hu1, hu2⟩ := hown1 w15.heap.size _ w18 _ _ ((hO16.below (by (repeat first|exact J0|assumption|(apply J1;assumption)|apply J2|apply J3|apply J4))).base_mono (Below.size (by (repeat first|exact J0|assumption|(apply J1;assumption)|apply J2|apply J3|apply J4)))) ((hO17.below (by (repeat first|exact J0|assumption|(apply J1;assumption)|apply J2|apply J3|apply J4))).base_mono (Below.size (by (repeat first|exact J0|assumption|(apply J1;assumption)|apply J2|apply J3|apply J4)))) hb18
          rw [hcv]
          refine wpTree_take rfl rfl ?_; intro K hK; simp only [Array.getD_eq_getD_getElem?, List.getElem?_toArray, List.getElem?_cons_succ, List.getElem?_cons_zero, Option.getD_some]; go_big_quiet_op; go_big_quiet_on
          refine wpTree_take rfl rfl ?_; intro K hK; simp only [Array.getD_eq_getD_getElem?, List.getElem?_toArray, List.getElem?_cons_succ, List.getElem?_cons_zero, Option.getD_some]; go_big_quiet_op; go_big_quiet_on
          refine wpTree_take rfl rfl ?_; intro K hK; simp only [Array.getD_eq_getD_getElem?, List.getElem?_toArray, List.getElem?_cons_succ, List.getElem?_cons_zero, Option.getD_some]; go_big_quiet_op; go_big_quiet_on
          refine wpTree_alt (wpTree_br rfl rfl ?_ wpTree_stop)
          have hS1 := hS0.below (show Below _ _ (w18) by (repeat first|exact J0|assumption|(apply J1;assumption)|apply J2|apply J3|apply J4))
          intro K hK
          simp only [Array.getD_eq_getD_getElem?, List.getElem?_toArray, List.getElem?_cons_succ, List.getElem?_cons_zero, Option.getD_some]
          refine op_store_blk hS1 _ _ _ rfl rfl rfl rfl (by kernel_rfl) (by kernel_rfl) ?_
          intro w7 hS7 hc7
          have hg7 : w15.heap.size ≤ (w17).heap.size := Below.size (show Below w15.heap.size w15 (w17) by (repeat first|exact J0|assumption|(apply J1;assumption)|apply J2|apply J3|apply J4))
          have hb7 : Below w15.heap.size w15 w7 := chg_bl (by (repeat first|exact J0|assumption|(apply J1;assumption)|apply J2|apply J3|apply J4)) hc7 hg7
          refine hK _ _ (chg_bl (by (repeat first|exact J0|assumption|(apply J1;assumption)|apply J2|apply J3|apply J4)) hc7 (by first | exact Nat.le_refl _ | exact hg7)) ?_
          clear hK K
          refine wpTree_fin ?_
          go_wp2_with fail
          go_meet
          case rel => exact ⟨((w17).heap.size), A7, c7, A77, c77, rfl, rfl, hS7, (hu1.below (by (repeat first|exact J0|assumption|(apply J1;assumption)|apply J2|apply J3|apply J4))).pastC hS1 (by decide) hc7, (hu2.below (by (repeat first|exact J0|assumption|(apply J1;assumption)|apply J2|apply J3|apply J4))).pastC hS1 (by decide) hc7, hb7⟩
      · have hS0 := Blk.new (w16) 29 #[.string ⟨#[]⟩, .int .i64 0, .slice none 0 0, .slice none 0 0]
        intro K hK
        go_simp
        refine hK _ _ (by (repeat first|exact J0|assumption|(apply J1;assumption)|apply J2|apply J3|apply J4)) ?_
        clear hK K
        refine wpTree_alt (wpTree_br rfl rfl ?_ wpTree_stop)
        intro K hK
        go_simp
        refine (pA2 _ _ _ (rr.below (by (repeat first|exact J0|assumption|(apply J1;assumption)|apply J2|apply J3|apply J4)))).mono ?_
        rintro e w17 ⟨v17, rfl, hO17, hb17⟩
        refine hK _ _ (by (repeat first|exact J0|assumption|(apply J1;assumption)|apply J2|apply J3|apply J4)) ?_
        clear hK K
        obtain ⟨A17, c17, rfl⟩ := hO17.shape
        refine wpTree_take rfl rfl ?_; intro K hK; simp only [Array.getD_eq_getD_getElem?, List.getElem?_toArray, List.getElem?_cons_succ, List.getElem?_cons_zero, Option.getD_some]; go_big_quiet_op; go_big_quiet_on
        refine wpTree_alt (wpTree_br rfl rfl ?_ wpTree_stop)
        intro K hK
        go_simp
        refine (hch _ _ _ ((hO16.rd ec_len).below (by (repeat first|exact J0|assumption|(apply J1;assumption)|apply J2|apply J3|apply J4))) ((hO17.rd ec_len).below (by (repeat first|exact J0|assumption|(apply J1;assumption)|apply J2|apply J3|apply J4)))).mono ?_
        rintro e w18 ⟨rfl, hb18⟩
        refine hK _ _ (by (repeat first|exact J0|assumption|(apply J1;assumption)|apply J2|apply J3|apply J4)) ?_
        clear hK K
        obtain ⟨A7, c7, A77, c77, hcv, hu1, hu2⟩ := hown1 w15.heap.size _ w18 _ _ ((hO16.below (by (repeat first|exact J0|assumption|(apply J1;assumption)|apply J2|apply J3|apply J4))).base_mono (Below.size (by (repeat first|exact J0|assumption|(apply J1;assumption)|apply J2|apply J3|apply J4)))) ((hO17.below (by (repeat first|exact J0|assumption|(apply J1;assumption)|apply J2|apply J3|apply J4))).base_mono (Below.size (by (repeat first|exact J0|assumption|(apply J1;assumption)|apply J2|apply J3|apply J4)))) hb18
        rw [hcv]
        refine wpTree_take rfl rfl ?_; intro K hK; simp only [Array.getD_eq_getD_getElem?, List.getElem?_toArray, List.getElem?_cons_succ, List.getElem?_cons_zero, Option.getD_some]; go_big_quiet_op; go_big_quiet_on
        refine wpTree_take rfl rfl ?_; intro K hK; simp only [Array.getD_eq_getD_getElem?, List.getElem?_toArray, List.getElem?_cons_succ, List.getElem?_cons_zero, Option.getD_some]; go_big_quiet_op; go_big_quiet_on
        refine wpTree_take rfl rfl ?_; intro K hK; simp only [Array.getD_eq_getD_getElem?, List.getElem?_toArray, List.getElem?_cons_succ, List.getElem?_cons_zero, Option.getD_some]; go_big_quiet_op; go_big_quiet_on
        refine wpTree_alt (wpTree_br rfl rfl ?_ wpTree_stop)
        have hS1 := hS0.below (show Below _ _ (w18) by (repeat first|exact J0|assumption|(apply J1;assumption)|apply J2|apply J3|apply J4))
        intro K hK
        simp only [Array.getD_eq_getD_getElem?, List.getElem?_toArray, List.getElem?_cons_succ, List.getElem?_cons_zero, Option.getD_some]
        refine op_store_blk hS1 _ _ _ rfl rfl rfl rfl (by kernel_rfl) (by kernel_rfl) ?_
        intro w7 hS7 hc7
        have hg7 : w15.heap.size ≤ (w16).heap.size := Below.size (show Below w15.heap.size w15 (w16) by (repeat first|exact J0|assumption|(apply J1;assumption)|apply J2|apply J3|apply J4))
        have hb7 : Below w15.heap.size w15 w7 := chg_bl (by (repeat first|exact J0|assumption|(apply J1;assumption)|apply J2|apply J3|apply J4)) hc7 hg7
        refine hK _ _ (chg_bl (by (repeat first|exact J0|assumption|(apply J1;assumption)|apply J2|apply J3|apply J4)) hc7 (by first | exact Nat.le_refl _ | exact hg7)) ?_
        clear hK K
        refine wpTree_fin ?_
        go_wp2_with fail
        go_meet
        case rel => exact ⟨((w16).heap.size), A7, c7, A77, c77, rfl, rfl, hS7, (hu1.below (by (repeat first|exact J0|assumption|(apply J1;assumption)|apply J2|apply J3|apply J4))).pastC hS1 (by decide) hc7, (hu2.below (by (repeat first|exact J0|assumption|(apply J1;assumption)|apply J2|apply J3|apply J4))).pastC hS1 (by decide) hc7, hb7⟩
    · have hS0 := Blk.new (w15.drew) 29 #[.string ⟨#[]⟩, .int .i64 0, .slice none 0 0, .slice none 0 0]
      intro K hK
      go_simp
      refine hK _ _ (by (repeat first|exact J0|assumption|(apply J1;assumption)|apply J2|apply J3|apply J4)) ?_
      clear hK K
      refine wpTree_alt (wpTree_br rfl rfl ?_ wpTree_stop)
      intro K hK
      go_simp
      refine (pA1 _ _ _ (rl.below (by (repeat first|exact J0|assumption|(apply J1;assumption)|apply J2|apply J3|apply J4)))).mono ?_
      rintro e w16 ⟨v16, rfl, hO16, hb16⟩
      refine hK _ _ (by (repeat first|exact J0|assumption|(apply J1;assumption)|apply J2|apply J3|apply J4)) ?_
      clear hK K
      obtain ⟨A16, c16, rfl⟩ := hO16.shape
      refine wpTree_alt (wpTree_br rfl rfl ?_ wpTree_stop)
      intro K hK
      go_simp
      refine (pA2 _ _ _ (rr.below (by (repeat first|exact J0|assumption|(apply J1;assumption)|apply J2|apply J3|apply J4)))).mono ?_
      rintro e w17 ⟨v17, rfl, hO17, hb17⟩
      refine hK _ _ (by (repeat first|exact J0|assumption|(apply J1;assumption)|apply J2|apply J3|apply J4)) ?_
      clear hK K
      obtain ⟨A17, c17, rfl⟩ := hO17.shape
      refine wpTree_take rfl rfl ?_; intro K hK; simp only [Array.getD_eq_getD_getElem?, List.getElem?_toArray, List.getElem?_cons_succ, List.getElem?_cons_zero, Option.getD_some]; go_big_quiet_op; go_big_quiet_on
      refine wpTree_alt (wpTree_br rfl rfl ?_ wpTree_stop)
      intro K hK
      go_simp
      refine (hch _ _ _ ((hO16.rd ec_len).below (by (repeat first|exact J0|assumption|(apply J1;assumption)|apply J2|apply J3|apply J4))) ((hO17.rd ec_len).below (by (repeat first|exact J0|assumption|(apply J1;assumption)|apply J2|apply J3|apply J4)))).mono ?_
      rintro e w18 ⟨rfl, hb18⟩
      refine hK _ _ (by (repeat first|exact J0|assumption|(apply J1;assumption)|apply J2|apply J3|apply J4)) ?_
      clear hK K
      obtain ⟨A7, c7, A77, c77, hcv, hu1, hu2⟩ := hown1 w15.heap.size _ w18 _ _ ((hO16.below (by (repeat first|exact J0|assumption|(apply J1;assumption)|apply J2|apply J3|apply J4))).base_mono (Below.size (by (repeat first|exact J0|assumption|(apply J1;assumption)|apply J2|apply J3|apply J4)))) ((hO17.below (by (repeat first|exact J0|assumption|(apply J1;assumption)|apply J2|apply J3|apply J4))).base_mono (Below.size (by (repeat first|exact J0|assumption|(apply J1;assumption)|apply J2|apply J3|apply J4)))) hb18
      rw [hcv]
      refine wpTree_take rfl rfl ?_; intro K hK; simp only [Array.getD_eq_getD_getElem?, List.getElem?_toArray, List.getElem?_cons_succ, List.getElem?_cons_zero, Option.getD_some]; go_big_quiet_op; go_big_quiet_on
      refine wpTree_take rfl rfl ?_; intro K hK; simp only [Array.getD_eq_getD_getElem?, List.getElem?_toArray, List.getElem?_cons_succ, List.getElem?_cons_zero, Option.getD_some]; go_big_quiet_op; go_big_quiet_on
      refine wpTree_take rfl rfl ?_; intro K hK; simp only [Array.getD_eq_getD_getElem?, List.getElem?_toArray, List.getElem?_cons_succ, List.getElem?_cons_zero, Option.getD_some]; go_big_quiet_op; go_big_quiet_on
      refine wpTree_alt (wpTree_br rfl rfl ?_ wpTree_stop)
      have hS1 := hS0.below (show Below _ _ (w18) by (repeat first|exact J0|assumption|(apply J1;assumption)|apply J2|apply J3|apply J4))
      intro K hK
      simp only [Array.getD_eq_getD_getElem?, List.getElem?_toArray, List.getElem?_cons_succ, List.getElem?_cons_zero, Option.getD_some]
      refine op_store_blk hS1 _ _ _ rfl rfl rfl rfl (by kernel_rfl) (by kernel_rfl) ?_
      intro w7 hS7 hc7
      have hg7 : w15.heap.size ≤ (w15.drew).heap.size := Below.size (show Below w15.heap.size w15 (w15.drew) by (repeat first|exact J0|assumption|(apply J1;assumption)|apply J2|apply J3|apply J4))
      have hb7 : Below w15.heap.size w15 w7 := chg_bl (by (repeat first|exact J0|assumption|(apply J1;assumption)|apply J2|apply J3|apply J4)) hc7 hg7
      refine hK _ _ (chg_bl (by (repeat first|exact J0|assumption|(apply J1;assumption)|apply J2|apply J3|apply J4)) hc7 (by first | exact Nat.le_refl _ | exact hg7)) ?_
      clear hK K
      refine wpTree_fin ?_
      go_wp2_with fail
      go_meet
      case rel => exact ⟨((w15.drew).heap.size), A7, c7, A77, c77, rfl, rfl, hS7, (hu1.below (by (repeat first|exact J0|assumption|(apply J1;assumption)|apply J2|apply J3|apply J4))).pastC hS1 (by decide) hc7, (hu2.below (by (repeat first|exact J0|assumption|(apply J1;assumption)|apply J2|apply J3|apply J4))).pastC hS1 (by decide) hc7, hb7⟩
  case rest =>
    obtain ⟨g14, A7, c7, A77, c77, rfl, rfl, hS14, hu1, hu2, hbc⟩ := hcut
    obtain ⟨w20, rfl⟩ : ∃ x, x = wc := ⟨_, rfl⟩
    have hP20 := hP15.below hbc
    have hZ20 := hZ15.below hbc
    have rl20 := rl.below hbc
    have rr20 := rr.below hbc
    have s8c := s8b.below hbc
    have s9c := s9b.below hbc
    have hW20 := bl_then hbc HW15.out
    have hzw : w.heap.size + 1 < w11.heap.size := hzw0
    have hwz : w.heap.size ≤ w15.heap.size := by omega
    have hzc := hbc.size
    have fZ20 := hZ20.facts
    clear hP15 hZ15 rl rr s8b s9b fP15 HW15
    by_cases hea : EA = 0
    · have tEA : (EA != 0) = false := by simp [hea]
      have hqa := HQA.out
      rw [if_pos hea] at hqa
      subst hqa
      have hH1 : Hid ((EB = 0 → F1 = (p.1, p.2.1, plnL (SL.take i), plnL (SR.take k)) ∧ F2 = (p.1, (xk - xi).tdiv 2, plnL (SL.drop i), plnL (SR.drop k)) ∧ FE = 0) ∧ (EB ≠ 0 → F1 = panZ ∧ F2 = panZ ∧ FE = EB)) := by
        refine ⟨fun hb => ⟨?_, ?_, ?_⟩, fun hb => ⟨?_, ?_, ?_⟩⟩
        · rw [← HF1.out, if_pos ⟨hea, hb⟩]
        · rw [← HF2.out, if_pos ⟨hea, hb⟩]
        · rw [← HFE.out, hea, hb]; rfl
        · rw [← HF1.out, if_neg (fun h => hb h.2)]
        · rw [← HF2.out, if_neg (fun h => hb h.2)]
        · rw [← HFE.out, hea]; show (if (0 : Int) = 0 then (if EB = 0 then 0 else EB) else 0) = EB; rw [if_pos rfl, if_neg hb]
      subst hea
      clear HQA HF1 HF2 HFE
      simp only at hS14 hu1 hu2
      obtain ⟨b8, off8, rfl, hb8x, p8, _⟩ := s8c.knot hi4
      obtain ⟨b9, off9, rfl, hb9x, p9, _⟩ := s9c.knot hk4
      rw [gi] at p8
      rw [gk] at p9
      simp only at p8 p9
      obtain ⟨A21, c21, hrun1, hr21⟩ := slice_from rl20 (by omega) hm13 (by omega : i ≤ SL.length)
      obtain ⟨A22, c22, hrun2, hr22⟩ := slice_from rr20 (by omega) hm15 (by omega : k ≤ SR.length)
      rw [hnl] at hrun1
      rw [hnr] at hrun2
      have fP20 := hP20.facts
      clear gi gk s8c s9c rl20 rr20
      go_upto_region 15 with fail
      go_upto_region 15 with fail
      go_cut [16, 15] from 78 ((fun s16 s15 wx => ∃ g A c B d, s16 = .pointer (some ⟨g, 0, none⟩) ∧ s15 = .int .i64 EB ∧ Blk wx g 29 #[.string ⟨QB.1.toArray⟩, .int .i64 QB.2.1, .slice A QB.2.2.1.length c, .slice B QB.2.2.2.length d] ∧ Own ec 3 w20.heap.size 100 wx (.slice A QB.2.2.1.length c) QB.2.2.1 ∧ Own ec 3 w20.heap.size 100 wx (.slice B QB.2.2.2.length d) QB.2.2.2 ∧ Below w20.heap.size w20 wx))
      case first =>
        refine wp_region_tree [0, 1, 2, 3, 4, 5, 6, 7, 8, 9, 10, 11, 12, 13, 14, 15, 16, 18, 19, 20] (.alt (.br 17 (.alt (.br 21 (.take 22 (.alt (.br 23 (.take 24 (.take 25 (.take 26 (.alt (.br 27 (.alt (.br 28 (.fin) (.stop))) (.stop)))))) (.br 27 (.alt (.br 23 (.take 24 (.take 25 (.take 26 (.alt (.br 28 (.fin) (.stop)))))) (.stop))) (.stop))))) (.br 27 (.alt (.br 21 (.take 22 (.alt (.br 23 (.take 24 (.take 25 (.take 26 (.alt (.br 28 (.fin) (.stop)))))) (.stop)))) (.stop))) (.stop)))) (.br 27 (.alt (.br 17 (.alt (.br 21 (.take 22 (.alt (.br 23 (.take 24 (.take 25 (.take 26 (.alt (.br 28 (.fin) (.stop)))))) (.stop)))) (.stop))) (.stop))) (.stop)))) [29] (by kernel_rfl) (by kernel_rfl) (fun d _ _ _ _ h => by cases d <;> exact h) ?_
        simp only [List.map_cons, List.map_nil, List.getD_cons_zero, List.getD_cons_succ]
        repeat (go_big_quiet_step (fail))
        refine wpQuiet_nil ?_
        refine wpTree_alt (wpTree_br rfl rfl ?_ (wpTree_br rfl rfl ?_ wpTree_stop))
        · intro K hK
          go_simp
          refine (pB1 _ _ _ (hr21.below (by (repeat first|exact J0|assumption|(apply J1;assumption)|apply J2|apply J3|apply J4)))).mono ?_
          rintro e w26 ⟨v26, rfl, hO26, hb26⟩
          refine hK _ _ (by (repeat first|exact J0|assumption|(apply J1;assumption)|apply J2|apply J3|apply J4)) ?_
          clear hK K
          obtain ⟨A26, c26, rfl⟩ := hO26.shape
          refine wpTree_alt (wpTree_br rfl rfl ?_ (wpTree_br rfl rfl ?_ wpTree_stop))
          · intro K hK
            go_simp
            refine (pB2 _ _ _ (hr22.below (by (repeat first|exact J0|assumption|(apply J1;assumption)|apply J2|apply J3|apply J4)))).mono ?_
            rintro e w27 ⟨v27, rfl, hO27, hb27⟩
            refine hK _ _ (by (repeat first|exact J0|assumption|(apply J1;assumption)|apply J2|apply J3|apply J4)) ?_
            clear hK K
            obtain ⟨A27, c27, rfl⟩ := hO27.shape
            refine wpTree_take rfl rfl ?_; intro K hK; simp only [Array.getD_eq_getD_getElem?, List.getElem?_toArray, List.getElem?_cons_succ, List.getElem?_cons_zero, Option.getD_some]; go_big_quiet_op; go_big_quiet_on
            refine wpTree_alt (wpTree_br rfl rfl ?_ (wpTree_br rfl rfl ?_ wpTree_stop))
            · intro K hK
              go_simp
              refine (hcg _ _ _ ((hO26.rd ec_len).below (by (repeat first|exact J0|assumption|(apply J1;assumption)|apply J2|apply J3|apply J4))) ((hO27.rd ec_len).below (by (repeat first|exact J0|assumption|(apply J1;assumption)|apply J2|apply J3|apply J4)))).mono ?_
              rintro e w28 ⟨rfl, hb28⟩
              refine hK _ _ (by (repeat first|exact J0|assumption|(apply J1;assumption)|apply J2|apply J3|apply J4)) ?_
              clear hK K
              obtain ⟨A9x, c9x, A99, c99, hcv, hv1, hv2⟩ := hown2 w20.heap.size _ w28 _ _ ((hO26.below (by (repeat first|exact J0|assumption|(apply J1;assumption)|apply J2|apply J3|apply J4))).base_mono (Below.size (by (repeat first|exact J0|assumption|(apply J1;assumption)|apply J2|apply J3|apply J4)))) ((hO27.below (by (repeat first|exact J0|assumption|(apply J1;assumption)|apply J2|apply J3|apply J4))).base_mono (Below.size (by (repeat first|exact J0|assumption|(apply J1;assumption)|apply J2|apply J3|apply J4)))) hb28
              rw [hcv]
              refine wpTree_take rfl rfl ?_; intro K hK; simp only [Array.getD_eq_getD_getElem?, List.getElem?_toArray, List.getElem?_cons_succ, List.getElem?_cons_zero, Option.getD_some]; go_big_quiet_op; go_big_quiet_on
              refine wpTree_take rfl rfl ?_; intro K hK; simp only [Array.getD_eq_getD_getElem?, List.getElem?_toArray, List.getElem?_cons_succ, List.getElem?_cons_zero, Option.getD_some]; go_big_quiet_op; go_big_quiet_on
              refine wpTree_take rfl rfl ?_; intro K hK; simp only [Array.getD_eq_getD_getElem?, List.getElem?_toArray, List.getElem?_cons_succ, List.getElem?_cons_zero, Option.getD_some]; go_big_quiet_op; go_big_quiet_on
              refine wpTree_alt (wpTree_br rfl rfl ?_ wpTree_stop)
              have hS0 := Blk.new (w28) 29 #[.string ⟨#[]⟩, .int .i64 0, .slice none 0 0, .slice none 0 0]
              intro K hK
              go_simp
              refine hK _ _ (by (repeat first|exact J0|assumption|(apply J1;assumption)|apply J2|apply J3|apply J4)) ?_
              clear hK K
              refine wpTree_alt (wpTree_br rfl rfl ?_ wpTree_stop)
              have hS1 := hS0.below (show Below _ _ (w28.alloc (.cells #[.string ⟨#[]⟩, .int .i64 0, .slice none 0 0, .slice none 0 0] 29)) by (repeat first|exact J0|assumption|(apply J1;assumption)|apply J2|apply J3|apply J4))
              intro K hK
              simp only [Array.getD_eq_getD_getElem?, List.getElem?_toArray, List.getElem?_cons_succ, List.getElem?_cons_zero, Option.getD_some]
              refine op_store_blk hS1 _ _ _ rfl rfl rfl rfl (by kernel_rfl) (by kernel_rfl) ?_
              intro w7 hS7 hc7
              have hg7 : w20.heap.size ≤ (w28).heap.size := Below.size (show Below w20.heap.size w20 (w28) by (repeat first|exact J0|assumption|(apply J1;assumption)|apply J2|apply J3|apply J4))
              have hb7 : Below w20.heap.size w20 w7 := chg_bl (by (repeat first|exact J0|assumption|(apply J1;assumption)|apply J2|apply J3|apply J4)) hc7 hg7
              refine hK _ _ (chg_bl (by (repeat first|exact J0|assumption|(apply J1;assumption)|apply J2|apply J3|apply J4)) hc7 (by first | exact Nat.le_refl _ | exact hg7)) ?_
              clear hK K
              refine wpTree_fin ?_
              go_wp2_with fail
              go_meet
              case rel => exact ⟨((w28).heap.size), A9x, c9x, A99, c99, rfl, rfl, hS7, (hv1.below (by (repeat first|exact J0|assumption|(apply J1;assumption)|apply J2|apply J3|apply J4))).pastC hS1 (by decide) hc7, (hv2.below (by (repeat first|exact J0|assumption|(apply J1;assumption)|apply J2|apply J3|apply J4))).pastC hS1 (by decide) hc7, hb7⟩
            · have hS0 := Blk.new (w27) 29 #[.string ⟨#[]⟩, .int .i64 0, .slice none 0 0, .slice none 0 0]
              intro K hK
              go_simp
              refine hK _ _ (by (repeat first|exact J0|assumption|(apply J1;assumption)|apply J2|apply J3|apply J4)) ?_
              clear hK K
              refine wpTree_alt (wpTree_br rfl rfl ?_ wpTree_stop)
              intro K hK
              go_simp
              refine (hcg _ _ _ ((hO26.rd ec_len).below (by (repeat first|exact J0|assumption|(apply J1;assumption)|apply J2|apply J3|apply J4))) ((hO27.rd ec_len).below (by (repeat first|exact J0|assumption|(apply J1;assumption)|apply J2|apply J3|apply J4)))).mono ?_
              rintro e w28 ⟨rfl, hb28⟩
              refine hK _ _ (by (repeat first|exact J0|assumption|(apply J1;assumption)|apply J2|apply J3|apply J4)) ?_
              clear hK K
              obtain ⟨A9x, c9x, A99, c99, hcv, hv1, hv2⟩ := hown2 w20.heap.size _ w28 _ _ ((hO26.below (by (repeat first|exact J0|assumption|(apply J1;assumption)|apply J2|apply J3|apply J4))).base_mono (Below.size (by (repeat first|exact J0|assumption|(apply J1;assumption)|apply J2|apply J3|apply J4)))) ((hO27.below (by (repeat first|exact J0|assumption|(apply J1;assumption)|apply J2|apply J3|apply J4))).base_mono (Below.size (by (repeat first|exact J0|assumption|(apply J1;assumption)|apply J2|apply J3|apply J4)))) hb28
              rw [hcv]
              refine wpTree_take rfl rfl ?_; intro K hK; simp only [Array.getD_eq_getD_getElem?, List.getElem?_toArray, List.getElem?_cons_succ, List.getElem?_cons_zero, Option.getD_some]; go_big_quiet_op; go_big_quiet_on
              refine wpTree_take rfl rfl ?_; intro K hK; simp only [Array.getD_eq_getD_getElem?, List.getElem?_toArray, List.getElem?_cons_succ, List.getElem?_cons_zero, Option.getD_some]; go_big_quiet_op; go_big_quiet_on
              refine wpTree_take rfl rfl ?_; intro K hK; simp only [Array.getD_eq_getD_getElem?, List.getElem?_toArray, List.getElem?_cons_succ, List.getElem?_cons_zero, Option.getD_some]; go_big_quiet_op; go_big_quiet_on
              refine wpTree_alt (wpTree_br rfl rfl ?_ wpTree_stop)
              have hS1 := hS0.below (show Below _ _ (w28) by (repeat first|exact J0|assumption|(apply J1;assumption)|apply J2|apply J3|apply J4))
              intro K hK
              simp only [Array.getD_eq_getD_getElem?, List.getElem?_toArray, List.getElem?_cons_succ, List.getElem?_cons_zero, Option.getD_some]
              refine op_store_blk hS1 _ _ _ rfl rfl rfl rfl (by kernel_rfl) (by kernel_rfl) ?_
              intro w7 hS7 hc7
              have hg7 : w20.heap.size ≤ (w27).heap.size := Below.size (show Below w20.heap.size w20 (w27) by (repeat first|exact J0|assumption|(apply J1;assumption)|apply J2|apply J3|apply J4))
              have hb7 : Below w20.heap.size w20 w7 := chg_bl (by (repeat first|exact J0|assumption|(apply J1;assumption)|apply J2|apply J3|apply J4)) hc7 hg7
              refine hK _ _ (chg_bl (by (repeat first|exact J0|assumption|(apply J1;assumption)|apply J2|apply J3|apply J4)) hc7 (by first | exact Nat.le_refl _ | exact hg7)) ?_
              clear hK K
              refine wpTree_fin ?_
              go_wp2_with fail
              go_meet
              case rel => exact ⟨((w27).heap.size), A9x, c9x, A99, c99, rfl, rfl, hS7, (hv1.below (by (repeat first|exact J0|assumption|(apply J1;assumption)|apply J2|apply J3|apply J4))).pastC hS1 (by decide) hc7, (hv2.below (by (repeat first|exact J0|assumption|(apply J1;assumption)|apply J2|apply J3|apply J4))).pastC hS1 (by decide) hc7, hb7⟩
          · have hS0 := Blk.new (w26) 29 #[.string ⟨#[]⟩, .int .i64 0, .slice none 0 0, .slice none 0 0]
            intro K hK
            go_simp
            refine hK _ _ (by (repeat first|exact J0|assumption|(apply J1;assumption)|apply J2|apply J3|apply J4)) ?_
            clear hK K
            refine wpTree_alt (wpTree_br rfl rfl ?_ wpTree_stop)
            intro K hK
            go_simp
            refine (pB2 _ _ _ (hr22.below (by (repeat first|exact J0|assumption|(apply J1;assumption)|apply J2|apply J3|apply J4)))).mono ?_
            rintro e w27 ⟨v27, rfl, hO27, hb27⟩
            refine hK _ _ (by (repeat first|exact J0|assumption|(apply J1;assumption)|apply J2|apply J3|apply J4)) ?_
            clear hK K
            obtain ⟨A27, c27, rfl⟩ := hO27.shape
            refine wpTree_take rfl rfl ?_; intro K hK; simp only [Array.getD_eq_getD_getElem?, List.getElem?_toArray, List.getElem?_cons_succ, List.getElem?_cons_zero, Option.getD_some]; go_big_quiet_op; go_big_quiet_on
            refine wpTree_alt (wpTree_br rfl rfl ?_ wpTree_stop)
            intro K hK
            go_simp
            refine (hcg _ _ _ ((hO26.rd ec_len).below (by (repeat first|exact J0|assumption|(apply J1;assumption)|apply J2|apply J3|apply J4))) ((hO27.rd ec_len).below (by (repeat first|exact J0|assumption|(apply J1;assumption)|apply J2|apply J3|apply J4)))).mono ?_
            rintro e w28 ⟨rfl, hb28⟩
            refine hK _ _ (by (repeat first|exact J0|assumption|(apply J1;assumption)|apply J2|apply J3|apply J4)) ?_
            clear hK K
            obtain ⟨A9x, c9x, A99, c99, hcv, hv1, hv2⟩ := hown2 w20.heap.size _ w28 _ _ ((hO26.below (by (repeat first|exact J0|assumption|(apply J1;assumption)|apply J2|apply J3|apply J4))).base_mono (Below.size (by (repeat first|exact J0|assumption|(apply J1;assumption)|apply J2|apply J3|apply J4)))) ((hO27.below (by (repeat first|exact J0|assumption|(apply J1;assumption)|apply J2|apply J3|apply J4))).base_mono (Below.size (by (repeat first|exact J0|assumption|(apply J1;assumption)|apply J2|apply J3|apply J4)))) hb28
            rw [hcv]
            refine wpTree_take rfl rfl ?_; intro K hK; simp only [Array.getD_eq_getD_getElem?, List.getElem?_toArray, List.getElem?_cons_succ, List.getElem?_cons_zero, Option.getD_some]; go_big_quiet_op; go_big_quiet_on
            refine wpTree_take rfl rfl ?_; intro K hK; simp only [Array.getD_eq_getD_getElem?, List.getElem?_toArray, List.getElem?_cons_succ, List.getElem?_cons_zero, Option.getD_some]; go_big_quiet_op; go_big_quiet_on
            refine wpTree_take rfl rfl ?_; intro K hK; simp only [Array.getD_eq_getD_getElem?, List.getElem?_toArray, List.getElem?_cons_succ, List.getElem?_cons_zero, Option.getD_some]; go_big_quiet_op; go_big_quiet_on
            refine wpTree_alt (wpTree_br rfl rfl ?_ wpTree_stop)
            have hS1 := hS0.below (show Below _ _ (w28) by (repeat first|exact J0|assumption|(apply J1;assumption)|apply J2|apply J3|apply J4))
            intro K hK
            simp only [Array.getD_eq_getD_getElem?, List.getElem?_toArray, List.getElem?_cons_succ, List.getElem?_cons_zero, Option.getD_some]
            refine op_store_blk hS1 _ _ _ rfl rfl rfl rfl (by kernel_rfl) (by kernel_rfl) ?_
            intro w7 hS7 hc7
            have hg7 : w20.heap.size ≤ (w26).heap.size := Below.size (show Below w20.heap.size w20 (w26) by (repeat first|exact J0|assumption|(apply J1;assumption)|apply J2|apply J3|apply J4))
            have hb7 : Below w20.heap.size w20 w7 := chg_bl (by (repeat first|exact J0|assumption|(apply J1;assumption)|apply J2|apply J3|apply J4)) hc7 hg7
            refine hK _ _ (chg_bl (by (repeat first|exact J0|assumption|(apply J1;assumption)|apply J2|apply J3|apply J4)) hc7 (by first | exact Nat.le_refl _ | exact hg7)) ?_
            clear hK K
            refine wpTree_fin ?_
            go_wp2_with fail
            go_meet
            case rel => exact ⟨((w26).heap.size), A9x, c9x, A99, c99, rfl, rfl, hS7, (hv1.below (by (repeat first|exact J0|assumption|(apply J1;assumption)|apply J2|apply J3|apply J4))).pastC hS1 (by decide) hc7, (hv2.below (by (repeat first|exact J0|assumption|(apply J1;assumption)|apply J2|apply J3|apply J4))).pastC hS1 (by decide) hc7, hb7⟩
        · have hS0 := Blk.new (w20.drew) 29 #[.string ⟨#[]⟩, .int .i64 0, .slice none 0 0, .slice none 0 0]
          intro K hK
          go_simp
          refine hK _ _ (by (repeat first|exact J0|assumption|(apply J1;assumption)|apply J2|apply J3|apply J4)) ?_
          clear hK K
          refine wpTree_alt (wpTree_br rfl rfl ?_ wpTree_stop)
          intro K hK
          go_simp
          refine (pB1 _ _ _ (hr21.below (by (repeat first|exact J0|assumption|(apply J1;assumption)|apply J2|apply J3|apply J4)))).mono ?_
          rintro e w26 ⟨v26, rfl, hO26, hb26⟩
          refine hK _ _ (by (repeat first|exact J0|assumption|(apply J1;assumption)|apply J2|apply J3|apply J4)) ?_
          clear hK K
          obtain ⟨A26, c26, rfl⟩ := hO26.shape
          refine wpTree_alt (wpTree_br rfl rfl ?_ wpTree_stop)
          intro K hK
          go_simp
          refine (pB2 _ _ _ (hr22.below (by (repeat first|exact J0|assumption|(apply J1;assumption)|apply J2|apply J3|apply J4)))).mono ?_
          rintro e w27 ⟨v27, rfl, hO27, hb27⟩
          refine hK _ _ (by (repeat first|exact J0|assumption|(apply J1;assumption)|apply J2|apply J3|apply J4)) ?_
          clear hK K
          obtain ⟨A27, c27, rfl⟩ := hO27.shape
          refine wpTree_take rfl rfl ?_; intro K hK; simp only [Array.getD_eq_getD_getElem?, List.getElem?_toArray, List.getElem?_cons_succ, List.getElem?_cons_zero, Option.getD_some]; go_big_quiet_op; go_big_quiet_on
          refine wpTree_alt (wpTree_br rfl rfl ?_ wpTree_stop)
          intro K hK
          go_simp
          refine (hcg _ _ _ ((hO26.rd ec_len).below (by (repeat first|exact J0|assumption|(apply J1;assumption)|apply J2|apply J3|apply J4))) ((hO27.rd ec_len).below (by (repeat first|exact J0|assumption|(apply J1;assumption)|apply J2|apply J3|apply J4)))).mono ?_
          rintro e w28 ⟨rfl, hb28⟩
          refine hK _ _ (by (repeat first|exact J0|assumption|(apply J1;assumption)|apply J2|apply J3|apply J4)) ?_
          clear hK K
          obtain ⟨A9x, c9x, A99, c99, hcv, hv1, hv2⟩ := hown2 w20.heap.size _ w28 _ _ ((hO26.below (by (repeat first|exact J0|assumption|(apply J1;assumption)|apply J2|apply J3|apply J4))).base_mono (Below.size (by (repeat first|exact J0|assumption|(apply J1;assumption)|apply J2|apply J3|apply J4)))) ((hO27.below (by (repeat first|exact J0|assumption|(apply J1;assumption)|apply J2|apply J3|apply J4))).base_mono (Below.size (by (repeat first|exact J0|assumption|(apply J1;assumption)|apply J2|apply J3|apply J4)))) hb28
          rw [hcv]
          refine wpTree_take rfl rfl ?_; intro K hK; simp only [Array.getD_eq_getD_getElem?, List.getElem?_toArray, List.getElem?_cons_succ, List.getElem?_cons_zero, Option.getD_some]; go_big_quiet_op; go_big_quiet_on
          refine wpTree_take rfl rfl ?_; intro K hK; simp only [Array.getD_eq_getD_getElem?, List.getElem?_toArray, List.getElem?_cons_succ, List.getElem?_cons_zero, Option.getD_some]; go_big_quiet_op; go_big_quiet_on
          refine wpTree_take rfl rfl ?_; intro K hK; simp only [Array.getD_eq_getD_getElem?, List.getElem?_toArray, List.getElem?_cons_succ, List.getElem?_cons_zero, Option.getD_some]; go_big_quiet_op; go_big_quiet_on
          refine wpTree_alt (wpTree_br rfl rfl ?_ wpTree_stop)
          have hS1 := hS0.below (show Below _ _ (w28) by (repeat first|exact J0|assumption|(apply J1;assumption)|apply J2|apply J3|apply J4))
          intro K hK
          simp only [Array.getD_eq_getD_getElem?, List.getElem?_toArray, List.getElem?_cons_succ, List.getElem?_cons_zero, Option.getD_some]
          refine op_store_blk hS1 _ _ _ rfl rfl rfl rfl (by kernel_rfl) (by kernel_rfl) ?_
          intro w7 hS7 hc7
          have hg7 : w20.heap.size ≤ (w20.drew).heap.size := Below.size (show Below w20.heap.size w20 (w20.drew) by (repeat first|exact J0|assumption|(apply J1;assumption)|apply J2|apply J3|apply J4))
          have hb7 : Below w20.heap.size w20 w7 := chg_bl (by (repeat first|exact J0|assumption|(apply J1;assumption)|apply J2|apply J3|apply J4)) hc7 hg7
          refine hK _ _ (chg_bl (by (repeat first|exact J0|assumption|(apply J1;assumption)|apply J2|apply J3|apply J4)) hc7 (by first | exact Nat.le_refl _ | exact hg7)) ?_
          clear hK K
          refine wpTree_fin ?_
          go_wp2_with fail
          go_meet
          case rel => exact ⟨((w20.drew).heap.size), A9x, c9x, A99, c99, rfl, rfl, hS7, (hv1.below (by (repeat first|exact J0|assumption|(apply J1;assumption)|apply J2|apply J3|apply J4))).pastC hS1 (by decide) hc7, (hv2.below (by (repeat first|exact J0|assumption|(apply J1;assumption)|apply J2|apply J3|apply J4))).pastC hS1 (by decide) hc7, hb7⟩
      case rest =>
        obtain ⟨g16, A9x, c9x, A99, c99, rfl, rfl, hS16, hv1, hv2, hbd⟩ := hcut
        obtain ⟨w30, rfl⟩ : ∃ x, x = wc := ⟨_, rfl⟩
        have hZ30 := hZ20.below hbd
        have hS14c := hS14.below hbd
        have hW30 := bl_then hbd hW20
        have hu1c := hu1.below hbd
        have hu2c := hu2.below hbd
        clear hZ20 hS14 hu1 hu2 fZ20 fP20 hP20 hrun1 hrun2 hr21 hr22 p8 p9
        by_cases heb : EB = 0
        · have tEB : (EB != 0) = false := by simp [heb]
          have hqb := HQB.out
          rw [if_pos heb] at hqb
          subst hqb
          obtain ⟨e1, e2, e3⟩ := hH1.out.1 heb
          subst e1 e2 e3
          subst heb
          clear HQB hH1
          simp only at hS16 hv1 hv2
          have f14 := hS14c.facts
          have f16 := hS16.facts
          go_wp2_with (refine wpList_store_blk hZ30 rfl _ _ _ rfl rfl rfl (by rfl) (by kernel_rfl) (by kernel_rfl) ?_; intro w12 hZ12 hc12; have f12 := hZ12.facts)
          refine bodyPost_ret (v := .tuple #[.agg #[.string ⟨p.1.toArray⟩, .int .i64 p.2.1, .slice A7 (plnL (SL.take i)).length c7, .slice A77 (plnL (SR.take k)).length c77, .string ⟨p.1.toArray⟩, .int .i64 ((xk - xi).tdiv 2), .slice A9x (plnL (SL.drop i)).length c9x, .slice A99 (plnL (SR.drop k)).length c99], .int .i64 0]) (by simp [results, Tryz.results44, go_sem, f12]) rfl ?_
          exact ⟨_, _, _, _, rfl, (hu1c.chg hc12 (by simp; omega)).base_mono (by omega), (hu2c.chg hc12 (by simp; omega)).base_mono (by omega), (hv1.chg hc12 (by simp; omega)).base_mono (by omega), (hv2.chg hc12 (by simp; omega)).base_mono (by omega), chg_bl hW30 hc12 (by omega)⟩
        · have tEB : (EB != 0) = true := by simpa using heb
          obtain ⟨e1, e2, e3⟩ := hH1.out.2 heb
          subst e1 e2 e3
          clear HQB hH1 heb
          go_wp2_with (refine wpList_store_blk hZ30 rfl _ _ _ rfl rfl rfl (by rfl) (by kernel_rfl) (by kernel_rfl) ?_; intro w12 hZ12 hc12; have f12 := hZ12.facts)
          refine bodyPost_ret (v := .tuple #[.agg #[.string ⟨#[]⟩, .int .i64 0, .slice none 0 0, .slice none 0 0, .string ⟨#[]⟩, .int .i64 0, .slice none 0 0, .slice none 0 0], .int .i64 FE]) (by simp [results, Tryz.results44, go_sem, f12]) rfl ?_
          exact ⟨_, _, _, _, rfl, Own.nil_, Own.nil_, Own.nil_, Own.nil_, chg_bl hW30 hc12 (by omega)⟩
    · have tEA : (EA != 0) = true := by simpa using hea
      have e1 : F1 = panZ := by rw [← HF1.out, if_neg (fun h => hea h.1)]
      have e2 : F2 = panZ := by rw [← HF2.out, if_neg (fun h => hea h.1)]
      have e3 : FE = EA := by rw [← HFE.out]; show (if EA = 0 then (if EB = 0 then 0 else EB) else EA) = EA; rw [if_neg hea]
      clear HF1 HF2 HFE
      subst e1 e2 e3
      clear HQA hea
      go_wp2_with (refine wpList_store_blk hZ20 rfl _ _ _ rfl rfl rfl (by rfl) (by kernel_rfl) (by kernel_rfl) ?_; intro w12 hZ12 hc12; have f12 := hZ12.facts)
      refine bodyPost_ret (v := .tuple #[.agg #[.string ⟨#[]⟩, .int .i64 0, .slice none 0 0, .slice none 0 0, .string ⟨#[]⟩, .int .i64 0, .slice none 0 0, .slice none 0 0], .int .i64 FE]) (by simp [results, Tryz.results44, go_sem, f12]) rfl ?_
      exact ⟨_, _, _, _, rfl, Own.nil_, Own.nil_, Own.nil_, Own.nil_, chg_bl hW20 hc12 (by omega)⟩
end Go.Proofs.YthkjgcldolnjaaaGreatDoor
