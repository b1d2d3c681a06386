/- The motions of a panel's net, plain. Conditions: the panel is valid. -/
import Derived.Test.YtkkefahobjlagaaGreatDoorQ46
import Derived.Test.YtkkefahobjlagaaGreatDoorQ43
import Derived.Test.YtkkefahobjlagaaGreatDoorQ44
import Derived.Test.YtkkefahobjlagaaGreatDoorQ32
import Derived.Test.YtkkefahobjlagaaGreatDoorQ47
import Derived.Test.YtkkefahobjlagaaGreatDoorQ26
namespace Go.Proofs.YtkkefahobjlagaaGreatDoor
open Go.RowKit Go.ChangeMaps
set_option maxHeartbeats 4000000
set_option maxRecDepth 100000
theorem barE_in {x y s : Int} (h : barE x y s = 0) : (-100000 ≤ x ∧ x ≤ 100000) ∧ (-100000 ≤ y ∧ y + 1 ≤ 100000) ∧ (-100000 ≤ x + s ∧ x + s ≤ 100000) ∧ (s = 1 ∨ s = -1) ∧ (x + y) % 2 = 0 := by
 have hs := (barE_ok h).2.2
 unfold barE at h
 split at h
 ·rename_i h1
  exact absurd h (by simpa using h1)
 ·rename_i h1
  obtain ⟨a1, a2, a3, a4, a5⟩ := knotE_zero (by simpa using h1)
  split at h
  ·exact absurd h (by decide)
  ·obtain ⟨b1, b2, b3, b4, b5⟩ := knotE_zero h
   exact ⟨⟨a1, a2⟩, ⟨a3, b4⟩, ⟨b1, b2⟩, hs, a5⟩
theorem turn2_mem {l : List Bar} (hs : ∀ b ∈ l, Sided b) (x : Bar) : x ∈ turnN 2 l ↔ ∃ b ∈ l, x = (-b.1 - b.2.2, -b.2.1 - 1, b.2.2) := by
 constructor
 ·intro hx
  obtain ⟨d, hd, rfl⟩ := (turnN_mem _ _ 1).1 hx
  obtain ⟨e, he, rfl⟩ := (turnN_mem _ _ 0).1 hd
  exact ⟨e, he, turnB_two (hs e he)⟩
 ·rintro ⟨b, hb, rfl⟩
  rw [← turnB_two (hs b hb)]
  exact (turnN_mem _ _ 1).2 ⟨_, (turnN_mem _ _ 0).2 ⟨b, hb, rfl⟩, rfl⟩
theorem allIn_of {l : List Bar} (h : netE l = 0) : allIn l = true := by
 unfold allIn
 rw [List.all_eq_true]
 intro b hb
 obtain ⟨h1, h2, h3, h4, h5⟩ := barE_in (netE_bars h _ hb)
 unfold inB
 rw [farB_no h1, farB_no (by omega), farB_no h3, farB_no (by omega)]
 rfl
theorem shift_is {l M : List Bar} {x y : Int} (hE : netE l = 0) (hk : knotE x y = 0) (hM : netE M = 0) (h : l.map (shB (x, y)) = M) : shiftE l x y = 0 ∧ shiftL l x y = M := by
 have h1 : degE l x y = 0 := by unfold degE; rw [hE, hk]; rfl
 unfold shiftE shiftL shE shL
 rw [if_pos h1, if_pos h1, h, if_pos (allIn_of hM), if_pos (allIn_of hM)]
 exact ⟨rfl, rfl⟩
theorem mir_net {p : Pan} (h : panE p = 0) (hN : netE (netL p) = 0) (hM : netE (netL (mirP p)) = 0) : (mirN (netL p)).map (shB (2 * p.2.1, 0)) = netL (mirP p) := by
 have ok := netE_ok hN
 refine sortedB_eq (shift_sorted (mirN_sorted ok.nodup) _) (netE_ok hM).sorted fun x => ?_
 rw [List.mem_map]
 constructor
 ·rintro ⟨c, hc, rfl⟩
  have := mir_bar h ((mirN_mem _ _).1 hc)
  obtain ⟨a, b, s⟩ := c
  unfold mirB at this
  unfold shB
  simp only at this ⊢
  rw [show 2 * p.2.1 - -a = a + 2 * p.2.1 by omega, Int.neg_neg] at this
  rw [Int.add_zero]
  exact this
 ·intro hx
  have := mir_bar (mir_err h) hx
  rw [mir_mir] at this
  refine ⟨(x.1 - 2 * p.2.1, x.2.1, x.2.2), (mirN_mem _ _).2 ?_, ?_⟩
  ·obtain ⟨a, b, s⟩ := x
   unfold mirB
   have e : (mirP p).2.1 = p.2.1 := rfl
   rw [e] at this
   simp only at this ⊢
   rw [show -(a - 2 * p.2.1) = 2 * p.2.1 - a by omega]
   exact this
  ·obtain ⟨a, b, s⟩ := x
   unfold shB
   simp only [Prod.mk.injEq]
   exact ⟨by omega, by omega, trivial⟩
theorem trn_net {p : Pan} (h : panE p = 0) (hw : (trnP p).2.1 ≤ 128) (hN : netE (netL p) = 0) (hM : netE (netL (trnP p)) = 0) : (turnN 2 (netL p)).map (shB (topX p true, heightP p)) = netL (trnP p) := by
 have ok := netE_ok hN
 have okp := panE_zero h
 have hs : ∀ b ∈ netL p, Sided b := fun b hb => (ok.ok b hb).2.2
 have he := trn_err h hw
 have hb2 : topX (trnP p) true = topX p true := by
  have h1 : topX (trnP p) true = topX p true - 0 := congrArg Prod.fst (trn_top okp false)
  omega
 refine sortedB_eq (shift_sorted (turnN_sorted ok.sorted hs 2) _) (netE_ok hM).sorted fun x => ?_
 rw [List.mem_map]
 constructor
 ·rintro ⟨c, hc, rfl⟩
  obtain ⟨b, hb, rfl⟩ := (turn2_mem hs c).1 hc
  have := trn_bar h hw hb
  obtain ⟨a, b, s⟩ := b
  unfold shB
  simp only at this ⊢
  rw [show topX p true - (a + s) = -a - s + topX p true by omega, show heightP p - (b + 1) = -b - 1 + heightP p by omega] at this
  exact this
 ·intro hx
  have := trn_bar he (by rw [trn_trn okp]; exact okp.wid.2) hx
  rw [trn_trn okp, hb2, trn_high okp] at this
  refine ⟨_, (turn2_mem hs _).2 ⟨_, this, rfl⟩, ?_⟩
  obtain ⟨a, b, s⟩ := x
  unfold shB
  simp only [Prod.mk.injEq]
  exact ⟨by omega, by omega, trivial⟩
end Go.Proofs.YtkkefahobjlagaaGreatDoor
namespace Go.Proofs.YtkkefahobjlagaaGreatDoor
open Go.RowKit Go.ChangeMaps
set_option maxHeartbeats 4000000
set_option maxRecDepth 100000
attribute [local go_sem] Oper.semAt_some
def cutA (p : Pan) (i k : Nat) : Pan := (p.1, p.2.1, plnL ((stpL p.2.2.1).take i), plnL ((stpL p.2.2.2).take k))
def cutD (p : Pan) (i k : Nat) : Int := ((outP p true).getD k (0, 0)).1 - ((outP p false).getD i (0, 0)).1
def cutB (p : Pan) (i k : Nat) : Pan := (p.1, (cutD p i k).tdiv 2, plnL ((stpL p.2.2.1).drop i), plnL ((stpL p.2.2.2).drop k))
def RP2 (w : World) (q r : Pan) (n : Int) (e : Ending) (w' : World) : Prop :=
 ∃ a b c d, e = .returned (.tuple #[.agg #[sV q.1, .int .i64 q.2.1, a, b, sV r.1, .int .i64 r.2.1, c, d], .int .i64 n]) ∧ Own ec 3 w.heap.size 107 w' a q.2.2.1 ∧ Own ec 3 w.heap.size 107 w' b q.2.2.2 ∧ Own ec 3 w.heap.size 107 w' c r.2.2.1 ∧ Own ec 3 w.heap.size 107 w' d r.2.2.2 ∧ Below w.heap.size w w'
theorem Own.pastC {α : Type} {enc : α → List Value} {sz base g : Nat} {e t : TypeId} {w w' : World} {v : Value} {l : List α} {cs : Array Value} (ho : Own enc sz base e w v l) (hB : Blk w g t cs) (ht : t ≠ e) (hc : Chg [g] w w') : Own enc sz base e w' v l := ho.chg1 hc (Ne.symm (ho.ne_blk hB ht))
theorem splitG_lt {y : Int} : ∀ (l : List Knot) (n : Nat), 0 ≤ splitG y l n → splitG y l n < (n + l.length : Nat) ∧ (n : Int) ≤ splitG y l n
 | [], n, h => by simp [splitG] at h
 | k :: l, n, h => by
  unfold splitG at h ⊢
  split
  ·simp
   omega
  ·rename_i hq
   rw [if_neg hq] at h
   have := splitG_lt l (n + 1) h
   rw [List.length_cons]
   omega
theorem slice_from {A : Option Addr} {c i : Nat} {l : List Stp} {w : World} (h : Rd sc 2 w A l) (hlc : l.length ≤ c) (hc : c ≤ maxLen) (hi : i ≤ l.length) :
  ∃ A1 c1, (∀ W, (Instr.slice 124 (.slice A l.length c) (some (.int .i64 i)) none none).run Tryz.prog W = .ok (.slice A1 (l.length - i) c1) W) ∧ Rd sc 2 w A1 (l.drop i) := by
 obtain ⟨A1, c1, he, _, _, hr⟩ := sl_post h hlc hi hc
 refine ⟨A1, c1, fun W => ?_, hr⟩
 have hu : Tryz.prog.underlying 124 = some (.slice (Tryz.prog.elem 124)) := by kernel_rfl
 have hs : ∀ W, (sizeOf (Tryz.prog.elem 124)).run Tryz.prog W = .ok 2 W := fun W => by kernel_rfl
 rw [run_slice_l W 124 A l.length c hu .i64 i (by omega) (by omega), hs]
 simp only [Result.andThen_ok, sliced]
 rw [List.length_drop] at he
 rw [Int.toNat_natCast]
 exact congrArg (fun v => Result.ok v W) he
theorem apiCut_range {vL vR : Value} (p : Pan) (y : Int) (w : World) (hnm : p.1.length ≤ 1000000) (hL : SlE w vL p.2.2.1) (hR : SlE w vR p.2.2.2) (hE : panE p = 0) (hy : withinI y 1 (heightP p - 1) ≠ 0) :
  Calls Tryz.prog 12 #[.agg #[sV p.1, .int .i64 p.2.1, vL, vR], .int .i64 y] w (RP2 w panZ panZ (withinI y 1 (heightP p - 1))) := by
 have hc := fun W (hb : Below w.heap.size w W) => checkPanel_any p W hnm (hL.below hb) (hR.below hb)
 have hok := panE_zero hE
 have hh := fun W (hb : Below w.heap.size w W) => height_any p W (hL.below hb) (hR.below hb) hok.wid' (hok.side false)
 obtain ⟨H, hH⟩ : ∃ H : Nat, heightP p = H := ⟨(heightP p).toNat, by have := hok.high; omega⟩
 have hHb : H ≤ 256 := by have := hok.high; omega
 have hwi := fun W => pwithin_any y 1 ((H : Int) - 1) W
 rw [hE] at hc
 rw [hH] at hh hy
 rw [hH]
 obtain ⟨E, hEE⟩ : ∃ E, withinI y 1 ((H : Int) - 1) = E := ⟨_, rfl⟩
 rw [hEE] at hwi hy ⊢
 have t0 : (E != 0) = true := by simp [hy]
 obtain ⟨AL, cL, rfl, _, _, _⟩ := hL
 obtain ⟨AR, cR, rfl, _, _, _⟩ := hR
 unfold sV at hc hh ⊢
 have hP := (Blk.new w 30 #[.string ⟨p.1.toArray⟩, .int .i64 p.2.1, .slice AL p.2.2.1.length cL, .slice AR p.2.2.2.length cR]).alloc (.cells #[.string ⟨#[]⟩, .int .i64 0, .slice none 0 0, .slice none 0 0, .string ⟨#[]⟩, .int .i64 0, .slice none 0 0, .slice none 0 0] 31)
 have hZ := Blk.new1 w (.cells #[.string ⟨p.1.toArray⟩, .int .i64 p.2.1, .slice AL p.2.2.1.length cL, .slice AR p.2.2.2.length cR] 30) 31 #[.string ⟨#[]⟩, .int .i64 0, .slice none 0 0, .slice none 0 0, .string ⟨#[]⟩, .int .i64 0, .slice none 0 0, .slice none 0 0]
 have fhP := hP.facts
 have fhZ := hZ.facts
 clear hE hEE hnm hy hok hH
 go_enter Tryz.func12, Tryz.ntmps12
 go_wp2_with fail
 refine (hc _ (by (repeat first|exact J0|assumption|(apply J1;assumption)|apply J2|apply J3|apply J4))).mono ?_
 rintro e w2 ⟨rfl, hb2⟩
 replace hP := hP.below (show Below _ _ w2 by (repeat first|exact J0|assumption|(apply J1;assumption)|apply J2|apply J3|apply J4))
 replace fhP := hP.facts
 replace hZ := hZ.below (show Below _ _ w2 by (repeat first|exact J0|assumption|(apply J1;assumption)|apply J2|apply J3|apply J4))
 replace fhZ := hZ.facts
 go_wp2_with (go_at_call 63; refine (hh _ (by (repeat first|exact J0|assumption|(apply J1;assumption)|apply J2|apply J3|apply J4))).mono ?_; rintro e w3 ⟨rfl, hb3⟩; replace hP := hP.below hb3; replace hZ := hZ.below hb3; have f3 := hP.facts)
 refine (hwi _).mono ?_
 rintro e w4 ⟨rfl, hb4⟩
 replace hP := hP.below hb4
 replace hZ := hZ.below hb4
 have f4 := hP.facts
 go_wp2_with (refine wpList_store_blk hZ rfl _ _ _ rfl rfl rfl (by rfl) (by kernel_rfl) (by kernel_rfl) ?_; intro w12 hZ12 hc12; have f12 := hZ12.facts)
 refine bodyPost_ret (v := .tuple #[.agg #[.string ⟨#[]⟩, .int .i64 0, .slice none 0 0, .slice none 0 0, .string ⟨#[]⟩, .int .i64 0, .slice none 0 0, .slice none 0 0], .int .i64 E]) (by simp [results, Tryz.results12, go_sem, f12]) rfl ?_
 exact ⟨_, _, _, _, rfl, Own.nil_, Own.nil_, Own.nil_, Own.nil_, chg_bl (by (repeat first|exact J0|assumption|(apply J1;assumption)|apply J2|apply J3|apply J4)) hc12 (by omega)⟩
theorem apiCut_rule2 {vL vR : Value} (p : Pan) (y : Int) (w : World) (hnm : p.1.length ≤ 1000000) (hL : SlE w vL p.2.2.1) (hR : SlE w vR p.2.2.2) (hE : panE p = 0) (hy : withinI y 1 (heightP p - 1) = 0) (hs : splitI (outP p false) y < 0 ∨ splitI (outP p true) y < 0) :
  Calls Tryz.prog 12 #[.agg #[sV p.1, .int .i64 p.2.1, vL, vR], .int .i64 y] w (RP2 w panZ panZ 18) := by
 have hc := fun W (hb : Below w.heap.size w W) => checkPanel_any p W hnm (hL.below hb) (hR.below hb)
 have hok := panE_zero hE
 have hh := fun W (hb : Below w.heap.size w W) => height_any p W (hL.below hb) (hR.below hb) hok.wid' (hok.side false)
 obtain ⟨H, hH⟩ : ∃ H : Nat, heightP p = H := ⟨(heightP p).toNat, by have := hok.high; omega⟩
 have hHb : H ≤ 256 := by have := hok.high; omega
 have hwi := fun W => pwithin_any y 1 ((H : Int) - 1) W
 rw [hE] at hc
 rw [hH] at hh hy
 rw [hy] at hwi
 have o1 := fun W (hb : Below w.heap.size w W) => outline_any p false W (hL.below hb) (hR.below hb) hok.wid' (hok.side false)
 have o2 := fun W (hb : Below w.heap.size w W) => outline_any p true W (hL.below hb) (hR.below hb) hok.wid' (hok.side true)
 have l1 := out_len p false (hok.side false)
 have l2 := out_len p true (hok.side true)
 obtain ⟨O1, hO1⟩ : ∃ O, outP p false = O := ⟨_, rfl⟩
 obtain ⟨O2, hO2⟩ : ∃ O, outP p true = O := ⟨_, rfl⟩
 rw [hO1] at o1 l1 hs
 rw [hO2] at o2 l2 hs
 have hq1 := fun A c W h => pspl_any O1 A c y W h (by omega)
 have hq2 := fun A c W h => pspl_any O2 A c y W h (by omega)
 obtain ⟨S1, hS1⟩ : ∃ S, splitI O1 y = S := ⟨_, rfl⟩
 obtain ⟨S2, hS2⟩ : ∃ S, splitI O2 y = S := ⟨_, rfl⟩
 rw [hS1] at hs hq1
 rw [hS2] at hs hq2
 clear hy hO1 hO2 hS1 hS2 hE hH hok hnm
 obtain ⟨AL, cL, rfl, _, _, _⟩ := hL
 obtain ⟨AR, cR, rfl, _, _, _⟩ := hR
 unfold sV at hc o1 o2 hh ⊢
 have hP := (Blk.new w 30 #[.string ⟨p.1.toArray⟩, .int .i64 p.2.1, .slice AL p.2.2.1.length cL, .slice AR p.2.2.2.length cR]).alloc (.cells #[.string ⟨#[]⟩, .int .i64 0, .slice none 0 0, .slice none 0 0, .string ⟨#[]⟩, .int .i64 0, .slice none 0 0, .slice none 0 0] 31)
 have hZ := Blk.new1 w (.cells #[.string ⟨p.1.toArray⟩, .int .i64 p.2.1, .slice AL p.2.2.1.length cL, .slice AR p.2.2.2.length cR] 30) 31 #[.string ⟨#[]⟩, .int .i64 0, .slice none 0 0, .slice none 0 0, .string ⟨#[]⟩, .int .i64 0, .slice none 0 0, .slice none 0 0]
 have fhP := hP.facts
 have fhZ := hZ.facts
 go_enter Tryz.func12, Tryz.ntmps12
 go_wp2_with fail
 refine (hc _ (by (repeat first|exact J0|assumption|(apply J1;assumption)|apply J2|apply J3|apply J4))).mono ?_
 rintro e w2 ⟨rfl, hb2⟩
 replace hP := hP.below (show Below _ _ w2 by (repeat first|exact J0|assumption|(apply J1;assumption)|apply J2|apply J3|apply J4))
 replace fhP := hP.facts
 replace hZ := hZ.below (show Below _ _ w2 by (repeat first|exact J0|assumption|(apply J1;assumption)|apply J2|apply J3|apply J4))
 replace fhZ := hZ.facts
 go_wp2_with (go_at_call 63; refine (hh _ (by (repeat first|exact J0|assumption|(apply J1;assumption)|apply J2|apply J3|apply J4))).mono ?_; rintro e w3 ⟨rfl, hb3⟩; replace hP := hP.below hb3; replace hZ := hZ.below hb3; have f3 := hP.facts)
 refine (hwi _).mono ?_
 rintro e w4 ⟨rfl, hb4⟩
 replace hP := hP.below hb4
 replace hZ := hZ.below hb4
 have f4 := hP.facts
 have hbw4 : Below w.heap.size w w4 := by (repeat first|exact J0|assumption|(apply J1;assumption)|apply J2|apply J3|apply J4)
 clear hh hc hwi f3 fhP fhZ hb2 hb3 hb4
 go_upto_region 7 with fail
 refine wp_region_ords [0, 2] [(1, false)] [3, 4, 5] (by kernel_rfl) (by kernel_rfl) (fun d _ _ _ _ h => by cases d <;> exact h) ?_
 simp only [List.map_cons, List.map_nil, List.getD_cons_zero, List.getD_cons_succ]
 repeat (go_big_quiet_step (fail))
 refine wpQuiet_nil ?_
 refine wpMid_run rfl (fun K hK => ?_)
 go_simp
 refine (o1 _ (by (repeat first|exact J0|assumption|(apply J1;assumption)|apply J2|apply J3|apply J4))).mono ?_
 rintro e w8 ⟨v8, rfl, hO8, hb8⟩
 refine hK _ _ (by (repeat first|exact J0|assumption|(apply J1;assumption)|apply J2|apply J3|apply J4)) ?_
 clear hK K
 have hP_w8 := hP.below (show Below _ _ w8 by (repeat first|exact J0|assumption|(apply J1;assumption)|apply J2|apply J3|apply J4))
 have fhP_w8 := hP_w8.facts
 have hZ_w8 := hZ.below (show Below _ _ w8 by (repeat first|exact J0|assumption|(apply J1;assumption)|apply J2|apply J3|apply J4))
 have fhZ_w8 := hZ_w8.facts
 obtain ⟨A8, c8, rfl⟩ := hO8.shape
 refine wpMid_nil ?_
 go_wp2_with (go_at_call 64; refine (o2 _ (by (repeat first|exact J0|assumption|(apply J1;assumption)|apply J2|apply J3|apply J4))).mono ?_; rintro e w9 ⟨v9, rfl, hO9, hb9⟩; obtain ⟨A9, c9, rfl⟩ := hO9.shape)
 have hb49 : Below w4.heap.size w4 w9 := by (repeat first|exact J0|assumption|(apply J1;assumption)|apply J2|apply J3|apply J4)
 have hP9 := hP_w8.below hb9
 have hZ9 := hZ_w8.below hb9
 have hr8 := ((hO8.rd kc_len).below hb9).rd_
 have hr9 := (hO9.rd kc_len).rd_
 refine (hq1 _ _ _ hr8).mono ?_
 rintro e w10 ⟨rfl, hb10⟩
 have hx : (S1 < 0) = True ∨ ((S1 < 0) = False ∧ (S2 < 0) = True) := by
  by_cases h : S1 < 0
  ·exact .inl (eq_true h)
  ·exact .inr ⟨eq_false h, eq_true (hs.resolve_left h)⟩
 clear hs
 rcases hx with t1 | ⟨t1, t2⟩
 all_goals
  go_wp2_with (first | (go_at_call 65; refine (hq2 _ _ _ (hr9.below hb10)).mono ?_; rintro e w11 ⟨rfl, hb11⟩; have hZ11 := (hZ9.below hb10).below hb11) | (refine wpList_store_blk hZ11 rfl _ _ _ rfl rfl rfl (by rfl) (by kernel_rfl) (by kernel_rfl) ?_; intro w12 hZ12 hc12; have f12 := hZ12.facts))
  have hb11w : Below w.heap.size w w11 := bl_then hb11 (bl_then hb10 (bl_then hb49 hbw4))
  refine bodyPost_ret (v := .tuple #[.agg #[.string ⟨#[]⟩, .int .i64 0, .slice none 0 0, .slice none 0 0, .string ⟨#[]⟩, .int .i64 0, .slice none 0 0, .slice none 0 0], .int .i64 18]) (by simp [results, Tryz.results12, go_sem, f12]) rfl ?_
  exact ⟨_, _, _, _, rfl, Own.nil_, Own.nil_, Own.nil_, Own.nil_, chg_bl hb11w hc12 (by omega)⟩
theorem apiCut_main {vL vR : Value} (p : Pan) (y : Int) (w : World) (hnm : p.1.length ≤ 1000000) (hL : SlE w vL p.2.2.1) (hR : SlE w vR p.2.2.2) (hE : panE p = 0) (hy : withinI y 1 (heightP p - 1) = 0) (i k : Nat) (hi : splitI (outP p false) y = i) (hk : splitI (outP p true) y = k) :
  Calls Tryz.prog 12 #[.agg #[sV p.1, .int .i64 p.2.1, vL, vR], .int .i64 y] w (RP2 w (if panE (cutA p i k) = 0 ∧ panE (cutB p i k) = 0 then cutA p i k else panZ) (if panE (cutA p i k) = 0 ∧ panE (cutB p i k) = 0 then cutB p i k else panZ) (firstI [panE (cutA p i k), panE (cutB p i k)])) := by
 have hc := fun W (hb : Below w.heap.size w W) => checkPanel_any p W hnm (hL.below hb) (hR.below hb)
 have hok := panE_zero hE
 have hh := fun W (hb : Below w.heap.size w W) => height_any p W (hL.below hb) (hR.below hb) hok.wid' (hok.side false)
 obtain ⟨H, hH⟩ : ∃ H : Nat, heightP p = H := ⟨(heightP p).toNat, by have := hok.high; omega⟩
 have hHb : H ≤ 256 := by have := hok.high; omega
 have hwi := fun W => pwithin_any y 1 ((H : Int) - 1) W
 rw [hE] at hc
 rw [hH] at hh hy
 rw [hy] at hwi
 have o1 := fun W (hb : Below w.heap.size w W) => outline_any p false W (hL.below hb) (hR.below hb) hok.wid' (hok.side false)
 have o2 := fun W (hb : Below w.heap.size w W) => outline_any p true W (hL.below hb) (hR.below hb) hok.wid' (hok.side true)
 have l1 := out_len p false (hok.side false)
 have l2 := out_len p true (hok.side true)
 have hi2 : i < (outP p false).length := by have := (splitG_lt (outP p false) 0 (by show (0 : Int) ≤ splitI (outP p false) y; omega)).1; have e : splitG y (outP p false) 0 = i := hi; omega
 have hk2 : k < (outP p true).length := by have := (splitG_lt (outP p true) 0 (by show (0 : Int) ≤ splitI (outP p true) y; omega)).1; have e : splitG y (outP p true) 0 = k := hk; omega
 have el1 : (outP p false).length = (stpL p.2.2.1).length + 1 := outK_len _ _ _
 have el2 : (outP p true).length = (stpL p.2.2.2).length + 1 := outK_len _ _ _
 have hi3 : i ≤ (stpL p.2.2.1).length := by omega
 have hk3 : k ≤ (stpL p.2.2.2).length := by omega
 have ll := hok.left.len
 have lr := hok.right.len
 have tl := hok.left.ltrs
 have tr := hok.right.ltrs
 have g1 : (outP p false)[i]? = some ((outP p false).getD i (0, 0)) := by rw [List.getD_eq_getElem?_getD, List.getElem?_eq_getElem hi2]; rfl
 have g2 : (outP p true)[k]? = some ((outP p true).getD k (0, 0)) := by rw [List.getD_eq_getElem?_getD, List.getElem?_eq_getElem hk2]; rfl
 have n1 := (hok.asc false).near i hi2
 have n2 := (hok.asc true).near k hk2
 have gg1 : (outP p false)[i] = (outP p false).getD i (0, 0) := by rw [List.getElem?_eq_getElem hi2] at g1; exact Option.some.inj g1
 have gg2 : (outP p true)[k] = (outP p true).getD k (0, 0) := by rw [List.getElem?_eq_getElem hk2] at g2; exact Option.some.inj g2
 rw [gg1] at n1
 rw [gg2] at n2
 have hch := fun W vl vr hl hr => checked_any (vL := vl) (vR := vr) (cutA p i k) W hnm hl hr
 have hcg := fun W vl vr hl hr => checked_any (vL := vl) (vR := vr) (cutB p i k) W hnm hl hr
 have hq1 := fun A c W h => pspl_any (outP p false) A c y W h (by omega)
 have hq2 := fun A c W h => pspl_any (outP p true) A c y W h (by omega)
 rw [hi] at hq1
 rw [hk] at hq2
 obtain ⟨AL, cL, rfl, _, _, rL⟩ := hL
 obtain ⟨AR, cR, rfl, _, _, rR⟩ := hR
 have kL := fun B W (hB : Blk W B 28 #[.slice AL p.2.2.1.length cL]) (hb : Below w.heap.size w W) => collectS_any B AL cL p.2.2.1 hok.left.sideOk W hB (rL.below hb)
 have kR := fun B W (hB : Blk W B 28 #[.slice AR p.2.2.2.length cR]) (hb : Below w.heap.size w W) => collectS_any B AR cR p.2.2.2 hok.right.sideOk W hB (rR.below hb)
 have HA : Hid (cutA p i k = (p.1, p.2.1, plnL ((stpL p.2.2.1).take i), plnL ((stpL p.2.2.2).take k))) := rfl
 have HB : Hid (cutB p i k = (p.1, (((outP p true).getD k (0, 0)).1 - ((outP p false).getD i (0, 0)).1).tdiv 2, plnL ((stpL p.2.2.1).drop i), plnL ((stpL p.2.2.2).drop k))) := rfl
 obtain ⟨SL, hSL⟩ : ∃ z, stpL p.2.2.1 = z := ⟨_, rfl⟩
 obtain ⟨SR, hSR⟩ : ∃ z, stpL p.2.2.2 = z := ⟨_, rfl⟩
 rw [hSL] at kL HA HB hi3 ll tl
 rw [hSR] at kR HA HB hk3 lr tr
 obtain ⟨⟨xi, yi⟩, hI⟩ : ∃ z, (outP p false).getD i (0, 0) = z := ⟨_, rfl⟩
 obtain ⟨⟨xk, yk⟩, hK⟩ : ∃ z, (outP p true).getD k (0, 0) = z := ⟨_, rfl⟩
 rw [hI] at HB n1 gg1
 rw [hK] at HB n2 gg2
 obtain ⟨O1, hO1⟩ : ∃ O, outP p false = O := ⟨_, rfl⟩
 obtain ⟨O2, hO2⟩ : ∃ O, outP p true = O := ⟨_, rfl⟩
 have hi4 : i < O1.length := by rw [← hO1]; exact hi2
 have hk4 : k < O2.length := by rw [← hO2]; exact hk2
 have gi : O1[i]'hi4 = (xi, yi) := by subst hO1; exact gg1
 have gk : O2[k]'hk4 = (xk, yk) := by subst hO2; exact gg2
 rw [hO1] at o1 l1 hq1
 rw [hO2] at o2 l2 hq2
 simp only at n1 n2
 have pA1 := fun A c W (hr : Rd sc 2 W A SL) => plain_any (SL.take i) A c W (hr.take_ i) (by rw [List.length_take]; omega) (fun x hx => tl x (List.mem_of_mem_take hx))
 have pA2 := fun A c W (hr : Rd sc 2 W A SR) => plain_any (SR.take k) A c W (hr.take_ k) (by rw [List.length_take]; omega) (fun x hx => tr x (List.mem_of_mem_take hx))
 have pB1 := fun A c W (hr : Rd sc 2 W A (SL.drop i)) => plain_any (SL.drop i) A c W hr (by rw [List.length_drop]; omega) (fun x hx => tl x (List.mem_of_mem_drop hx))
 have pB2 := fun A c W (hr : Rd sc 2 W A (SR.drop k)) => plain_any (SR.drop k) A c W hr (by rw [List.length_drop]; omega) (fun x hx => tr x (List.mem_of_mem_drop hx))
 rw [List.length_take, Nat.min_eq_left hi3] at pA1
 rw [List.length_take, Nat.min_eq_left hk3] at pA2
 rw [List.length_drop] at pB1 pB2
 have hown1 := fun base W w' (a b : Value) h1 h2 h3 => checked_own (vL := a) (vR := b) (base := base) (cutA p i k) W w' h1 h2 h3
 have hown2 := fun base W w' (a b : Value) h1 h2 h3 => checked_own (vL := a) (vR := b) (base := base) (cutB p i k) W w' h1 h2 h3
 have HQA : Hid (pcR 0 (cutA p i k) = if panE (cutA p i k) = 0 then cutA p i k else panZ) := by unfold Hid pcR; rw [show pcE 0 (cutA p i k) = panE (cutA p i k) from if_neg (by simp)]
 have HQB : Hid (pcR 0 (cutB p i k) = if panE (cutB p i k) = 0 then cutB p i k else panZ) := by unfold Hid pcR; rw [show pcE 0 (cutB p i k) = panE (cutB p i k) from if_neg (by simp)]
 obtain ⟨CA, hCA⟩ : ∃ z, cutA p i k = z := ⟨_, rfl⟩
 obtain ⟨CB, hCB⟩ : ∃ z, cutB p i k = z := ⟨_, rfl⟩
 rw [hCA] at HA hch hown1 HQA ⊢
 rw [hCB] at HB hcg hown2 HQB ⊢
 obtain ⟨EA, hEA⟩ : ∃ z, panE CA = z := ⟨_, rfl⟩
 obtain ⟨EB, hEB⟩ : ∃ z, panE CB = z := ⟨_, rfl⟩
 rw [hEA] at hch HQA ⊢
 rw [hEB] at hcg HQB ⊢
 obtain ⟨QA, hQA⟩ : ∃ z, pcR 0 CA = z := ⟨_, rfl⟩
 obtain ⟨QB, hQB⟩ : ∃ z, pcR 0 CB = z := ⟨_, rfl⟩
 rw [hQA] at HQA hown1
 rw [hQB] at HQB hown2
 obtain ⟨F1, hF1⟩ : ∃ z, (if EA = 0 ∧ EB = 0 then CA else panZ) = z := ⟨_, rfl⟩
 obtain ⟨F2, hF2⟩ : ∃ z, (if EA = 0 ∧ EB = 0 then CB else panZ) = z := ⟨_, rfl⟩
 obtain ⟨FE, hFE⟩ : ∃ z, firstI [EA, EB] = z := ⟨_, rfl⟩
 rw [hF1, hF2, hFE]
 have HF1 := Lib.hid hF1
 have HF2 := Lib.hid hF2
 have HFE := Lib.hid hFE
 clear hF1 hF2 hFE
 have hA := HA.out
 subst hA
 have hB := HB.out
 subst hB
 simp only at hch hcg hown1 hown2
 obtain ⟨nl, hnl⟩ : ∃ z, SL.length = z := ⟨_, rfl⟩
 obtain ⟨nr, hnr⟩ : ∃ z, SR.length = z := ⟨_, rfl⟩
 rw [hnl] at pB1 ll hi3
 rw [hnr] at pB2 lr hk3
 have hs : sV p.1 = .string ⟨p.1.toArray⟩ := rfl
 rw [hs] at hc o1 o2 hh ⊢
 simp only [hs] at hch hcg
 clear hs
 obtain ⟨n11, n12⟩ := n1
 obtain ⟨n21, n22⟩ := n2
 have hP := (Blk.new w 30 #[.string ⟨p.1.toArray⟩, .int .i64 p.2.1, .slice AL p.2.2.1.length cL, .slice AR p.2.2.2.length cR]).alloc (.cells #[.string ⟨#[]⟩, .int .i64 0, .slice none 0 0, .slice none 0 0, .string ⟨#[]⟩, .int .i64 0, .slice none 0 0, .slice none 0 0] 31)
 have hZ := Blk.new1 w (.cells #[.string ⟨p.1.toArray⟩, .int .i64 p.2.1, .slice AL p.2.2.1.length cL, .slice AR p.2.2.2.length cR] 30) 31 #[.string ⟨#[]⟩, .int .i64 0, .slice none 0 0, .slice none 0 0, .string ⟨#[]⟩, .int .i64 0, .slice none 0 0, .slice none 0 0]
 have fhP := hP.facts
 have fhZ := hZ.facts
 clear hy hO1 hO2 hi hk hi2 hk2 el1 el2 hE hH hok hnm hSL hSR hI hK gg1 gg2 g1 g2 tl tr hCA hCB hEA hEB hQA hQB HA HB rL rR
 go_enter Tryz.func12, Tryz.ntmps12
 go_wp2_with fail
 refine (hc _ (by (repeat first|exact J0|assumption|(apply J1;assumption)|apply J2|apply J3|apply J4))).mono ?_
 rintro e w2 ⟨rfl, hb2⟩
 replace hP := hP.below (show Below _ _ w2 by (repeat first|exact J0|assumption|(apply J1;assumption)|apply J2|apply J3|apply J4))
 replace fhP := hP.facts
 replace hZ := hZ.below (show Below _ _ w2 by (repeat first|exact J0|assumption|(apply J1;assumption)|apply J2|apply J3|apply J4))
 replace fhZ := hZ.facts
 go_wp2_with (go_at_call 63; refine (hh _ (by (repeat first|exact J0|assumption|(apply J1;assumption)|apply J2|apply J3|apply J4))).mono ?_; rintro e w3 ⟨rfl, hb3⟩; replace hP := hP.below hb3; replace hZ := hZ.below hb3; have f3 := hP.facts)
 refine (hwi _).mono ?_
 rintro e w4 ⟨rfl, hb4⟩
 replace hP := hP.below hb4
 replace hZ := hZ.below hb4
 have f4 := hP.facts
 have hbw4 : Below w.heap.size w w4 := by (repeat first|exact J0|assumption|(apply J1;assumption)|apply J2|apply J3|apply J4)
 clear hh hc hwi f3 fhP fhZ hb2 hb3 hb4
 go_upto_region 7 with fail
 refine wp_region_ords [0, 2] [(1, false)] [3, 4, 5] (by kernel_rfl) (by kernel_rfl) (fun d _ _ _ _ h => by cases d <;> exact h) ?_
 simp only [List.map_cons, List.map_nil, List.getD_cons_zero, List.getD_cons_succ]
 repeat (go_big_quiet_step (fail))
 refine wpQuiet_nil ?_
 refine wpMid_run rfl (fun K hK => ?_)
 go_simp
 refine (o1 _ (by (repeat first|exact J0|assumption|(apply J1;assumption)|apply J2|apply J3|apply J4))).mono ?_
 rintro e w8 ⟨v8, rfl, hO8, hb8⟩
 refine hK _ _ (by (repeat first|exact J0|assumption|(apply J1;assumption)|apply J2|apply J3|apply J4)) ?_
 clear hK K
 have hP_w8 := hP.below (show Below _ _ w8 by (repeat first|exact J0|assumption|(apply J1;assumption)|apply J2|apply J3|apply J4))
 have fhP_w8 := hP_w8.facts
 have hZ_w8 := hZ.below (show Below _ _ w8 by (repeat first|exact J0|assumption|(apply J1;assumption)|apply J2|apply J3|apply J4))
 have fhZ_w8 := hZ_w8.facts
 obtain ⟨A8, c8, rfl⟩ := hO8.shape
 refine wpMid_nil ?_
 go_wp2_with (go_at_call 64; refine (o2 _ (by (repeat first|exact J0|assumption|(apply J1;assumption)|apply J2|apply J3|apply J4))).mono ?_; rintro e w9 ⟨v9, rfl, hO9, hb9⟩; obtain ⟨A9, c9, rfl⟩ := hO9.shape)
 have hb49 : Below w4.heap.size w4 w9 := by (repeat first|exact J0|assumption|(apply J1;assumption)|apply J2|apply J3|apply J4)
 have hP9 := hP_w8.below hb9
 have hZ9 := hZ_w8.below hb9
 have hr8 := ((hO8.rd kc_len).below hb9).rd_
 have hr9 := (hO9.rd kc_len).rd_
 refine (hq1 _ _ _ hr8).mono ?_
 rintro e w10 ⟨rfl, hb10⟩
 go_wp2_with fail
 refine (hq2 _ _ _ (hr9.below hb10)).mono ?_
 rintro e w11 ⟨rfl, hb11⟩
 have hP11 := (hP9.below hb10).below hb11
 have hZ11 := (hZ9.below hb10).below hb11
 have s8 := (hr8.below hb10).below hb11
 have s9 := (hr9.below hb10).below hb11
 have hW11 : Below w.heap.size w w11 := bl_then hb11 (bl_then hb10 (bl_then hb49 hbw4))
 have t1 : ((i : Int) < 0) = False := eq_false (by omega)
 have t2 : ((k : Int) < 0) = False := eq_false (by omega)
 have fP11 := hP11.facts
 have HW := Lib.hid hW11
 clear hP hZ hP_w8 hZ_w8 hP9 hZ9 hr8 hr9 hb10 hb11 hb49 hbw4 hO8 hO9 hb8 hb9 hW11 f4
 go_upto_region 11 with fail
 refine wp_region_ords [0, 1, 4, 5] [(2, false), (3, false)] [6, 7, 8, 9] (by kernel_rfl) (by kernel_rfl) (fun d _ _ _ _ h => by cases d <;> exact h) ?_
 simp only [List.map_cons, List.map_nil, List.getD_cons_zero, List.getD_cons_succ]
 repeat (go_big_quiet_step (fail))
 refine wpQuiet_nil ?_
 refine wpMid_run rfl (fun K hK => ?_)
 go_simp
 refine (lettersB_any _ _ _ _).mono ?_
 rintro e w12 ⟨B12, rfl, hB12, hb12⟩
 refine hK _ _ (by (repeat first|exact J0|assumption|(apply J1;assumption)|apply J2|apply J3|apply J4)) ?_
 clear hK K
 have hP11_w12 := hP11.below (show Below _ _ w12 by (repeat first|exact J0|assumption|(apply J1;assumption)|apply J2|apply J3|apply J4))
 have fhP11_w12 := hP11_w12.facts
 have hZ11_w12 := hZ11.below (show Below _ _ w12 by (repeat first|exact J0|assumption|(apply J1;assumption)|apply J2|apply J3|apply J4))
 have fhZ11_w12 := hZ11_w12.facts
 refine wpMid_run rfl (fun K hK => ?_)
 go_simp
 refine (kL _ _ hB12 (bl_then (by (repeat first|exact J0|assumption|(apply J1;assumption)|apply J2|apply J3|apply J4)) HW.out)).mono ?_
 rintro e w13 ⟨v13, rfl, hO13, hb13⟩
 refine hK _ _ (by (repeat first|exact J0|assumption|(apply J1;assumption)|apply J2|apply J3|apply J4)) ?_
 clear hK K
 have hP11_w13 := hP11.below (show Below _ _ w13 by (repeat first|exact J0|assumption|(apply J1;assumption)|apply J2|apply J3|apply J4))
 have fhP11_w13 := hP11_w13.facts
 have hZ11_w13 := hZ11.below (show Below _ _ w13 by (repeat first|exact J0|assumption|(apply J1;assumption)|apply J2|apply J3|apply J4))
 have fhZ11_w13 := hZ11_w13.facts
 refine wpMid_nil ?_
 go_wp2_with fail
 refine (lettersB_any _ _ _ _).mono ?_
 rintro e w14 ⟨B14, rfl, hB14, hb14⟩
 go_wp2_with fail
 refine (kR _ _ hB14 (bl_then (by (repeat first|exact J0|assumption|(apply J1;assumption)|apply J2|apply J3|apply J4)) HW.out)).mono ?_
 rintro e w15 ⟨v15, rfl, hO15, hb15⟩
 go_upto_region 12 with fail
 obtain ⟨A13, c13, rfl, hl13, hm13, rl⟩ := (hO13.rd sc_len).below (show Below w13.heap.size w13 w15 by (repeat first|exact J0|assumption|(apply J1;assumption)|apply J2|apply J3|apply J4))
 obtain ⟨A15, c15, rfl, hl15, hm15, rr⟩ := hO15.rd sc_len
 have hx15 : Below w11.heap.size w11 w15 := by (repeat first|exact J0|assumption|(apply J1;assumption)|apply J2|apply J3|apply J4)
 have hP15 := hP11.below hx15
 have hzw0 : w.heap.size + 1 < w11.heap.size := hZ11.lt
 have hZ15 := hZ11.below hx15
 have s8b := s8.below hx15
 have s9b := s9.below hx15
 have HW15 := Lib.hid (bl_then hx15 HW.out)
 have hz15 := hx15.size
 clear hP11 hZ11 hP11_w12 hZ11_w12 hP11_w13 hZ11_w13 hb12 hb13 hb14 hb15 hB12 hB14 hO13 hO15 hx15 HW kL kR s8 s9 fP11 fhP11_w12 fhP11_w13 fhZ11_w12 fhZ11_w13
 rw [hnl] at hl13 ⊢
 rw [hnr] at hl15 ⊢
 have hic : i ≤ c13 := by omega
 have hkc : k ≤ c15 := by omega
 have fP15 := hP15.facts
 go_upto_region 12 with fail
 go_cut [14, 15] from 57 ((fun s14 s15 wx => ∃ g A c B d, s14 = .pointer (some ⟨g, 0, none⟩) ∧ s15 = .int .i64 EA ∧ Blk wx g 30 #[.string ⟨QA.1.toArray⟩, .int .i64 QA.2.1, .slice A QA.2.2.1.length c, .slice B QA.2.2.2.length d] ∧ Own ec 3 w15.heap.size 107 wx (.slice A QA.2.2.1.length c) QA.2.2.1 ∧ Own ec 3 w15.heap.size 107 wx (.slice B QA.2.2.2.length d) QA.2.2.2 ∧ Below w15.heap.size w15 wx))
 case first =>
  refine wp_region_tree [0, 1, 2, 3, 4, 5, 6, 8, 9, 10] (.alt (.br 7 (.alt (.br 11 (.take 12 (.alt (.br 13 (.take 14 (.take 15 (.take 16 (.alt (.br 17 (.alt (.br 18 (.fin) (.stop))) (.stop)))))) (.br 17 (.alt (.br 13 (.take 14 (.take 15 (.take 16 (.alt (.br 18 (.fin) (.stop)))))) (.stop))) (.stop))))) (.br 17 (.alt (.br 11 (.take 12 (.alt (.br 13 (.take 14 (.take 15 (.take 16 (.alt (.br 18 (.fin) (.stop)))))) (.stop)))) (.stop))) (.stop)))) (.br 17 (.alt (.br 7 (.alt (.br 11 (.take 12 (.alt (.br 13 (.take 14 (.take 15 (.take 16 (.alt (.br 18 (.fin) (.stop)))))) (.stop)))) (.stop))) (.stop))) (.stop)))) [19] (by kernel_rfl) (by kernel_rfl) (fun d _ _ _ _ h => by cases d <;> exact h) ?_
  simp only [List.map_cons, List.map_nil, List.getD_cons_zero, List.getD_cons_succ]
  repeat (go_big_quiet_step (fail))
  refine wpQuiet_nil ?_
  refine wpTree_alt (wpTree_br rfl rfl ?_ (wpTree_br rfl rfl ?_ wpTree_stop))
  ·intro K hK
   go_simp
   refine (pA1 _ _ _ (rl.below (by (repeat first|exact J0|assumption|(apply J1;assumption)|apply J2|apply J3|apply J4)))).mono ?_
   rintro e w16 ⟨v16, rfl, hO16, hb16⟩
   refine hK _ _ (by (repeat first|exact J0|assumption|(apply J1;assumption)|apply J2|apply J3|apply J4)) ?_
   clear hK K
   obtain ⟨A16, c16, rfl⟩ := hO16.shape
   refine wpTree_alt (wpTree_br rfl rfl ?_ (wpTree_br rfl rfl ?_ wpTree_stop))
   ·intro K hK
    go_simp
    refine (pA2 _ _ _ (rr.below (by (repeat first|exact J0|assumption|(apply J1;assumption)|apply J2|apply J3|apply J4)))).mono ?_
    rintro e w17 ⟨v17, rfl, hO17, hb17⟩
    refine hK _ _ (by (repeat first|exact J0|assumption|(apply J1;assumption)|apply J2|apply J3|apply J4)) ?_
    clear hK K
    obtain ⟨A17, c17, rfl⟩ := hO17.shape
    refine wpTree_take rfl rfl ?_; intro K hK; simp only [Array.getD_eq_getD_getElem?, List.getElem?_toArray, List.getElem?_cons_succ, List.getElem?_cons_zero, Option.getD_some]; go_big_quiet_op; go_big_quiet_on
    refine wpTree_alt (wpTree_br rfl rfl ?_ (wpTree_br rfl rfl ?_ wpTree_stop))
    ·intro K hK
     go_simp
     refine (hch _ _ _ ((hO16.rd ec_len).below (by (repeat first|exact J0|assumption|(apply J1;assumption)|apply J2|apply J3|apply J4))) ((hO17.rd ec_len).below (by (repeat first|exact J0|assumption|(apply J1;assumption)|apply J2|apply J3|apply J4)))).mono ?_
     rintro e w18 ⟨rfl, hb18⟩
     refine hK _ _ (by (repeat first|exact J0|assumption|(apply J1;assumption)|apply J2|apply J3|apply J4)) ?_
     clear hK K
     obtain ⟨A7, c7, A77, c77, hcv, hu1, hu2⟩ := hown1 w15.heap.size _ w18 _ _ ((hO16.below (by (repeat first|exact J0|assumption|(apply J1;assumption)|apply J2|apply J3|apply J4))).base_mono (Below.size (by (repeat first|exact J0|assumption|(apply J1;assumption)|apply J2|apply J3|apply J4)))) ((hO17.below (by (repeat first|exact J0|assumption|(apply J1;assumption)|apply J2|apply J3|apply J4))).base_mono (Below.size (by (repeat first|exact J0|assumption|(apply J1;assumption)|apply J2|apply J3|apply J4)))) hb18
     rw [hcv]
     refine wpTree_take rfl rfl ?_; intro K hK; simp only [Array.getD_eq_getD_getElem?, List.getElem?_toArray, List.getElem?_cons_succ, List.getElem?_cons_zero, Option.getD_some]; go_big_quiet_op; go_big_quiet_on
     refine wpTree_take rfl rfl ?_; intro K hK; simp only [Array.getD_eq_getD_getElem?, List.getElem?_toArray, List.getElem?_cons_succ, List.getElem?_cons_zero, Option.getD_some]; go_big_quiet_op; go_big_quiet_on
     refine wpTree_take rfl rfl ?_; intro K hK; simp only [Array.getD_eq_getD_getElem?, List.getElem?_toArray, List.getElem?_cons_succ, List.getElem?_cons_zero, Option.getD_some]; go_big_quiet_op; go_big_quiet_on
     refine wpTree_alt (wpTree_br rfl rfl ?_ wpTree_stop)
     have hS0 := Blk.new (w18) 30 #[.string ⟨#[]⟩, .int .i64 0, .slice none 0 0, .slice none 0 0]
     intro K hK
     go_simp
     refine hK _ _ (by (repeat first|exact J0|assumption|(apply J1;assumption)|apply J2|apply J3|apply J4)) ?_
     clear hK K
     refine wpTree_alt (wpTree_br rfl rfl ?_ wpTree_stop)
     have hS1 := hS0.below (show Below _ _ (w18.alloc (.cells #[.string ⟨#[]⟩, .int .i64 0, .slice none 0 0, .slice none 0 0] 30)) by (repeat first|exact J0|assumption|(apply J1;assumption)|apply J2|apply J3|apply J4))
     intro K hK
     simp only [Array.getD_eq_getD_getElem?, List.getElem?_toArray, List.getElem?_cons_succ, List.getElem?_cons_zero, Option.getD_some]
     refine op_store_blk hS1 _ _ _ rfl rfl rfl rfl (by kernel_rfl) (by kernel_rfl) ?_
     intro w7 hS7 hc7
     have hg7 : w15.heap.size ≤ (w18).heap.size := Below.size (show Below w15.heap.size w15 (w18) by (repeat first|exact J0|assumption|(apply J1;assumption)|apply J2|apply J3|apply J4))
     have hb7 : Below w15.heap.size w15 w7 := chg_bl (by (repeat first|exact J0|assumption|(apply J1;assumption)|apply J2|apply J3|apply J4)) hc7 hg7
     refine hK _ _ (chg_bl (by (repeat first|exact J0|assumption|(apply J1;assumption)|apply J2|apply J3|apply J4)) hc7 (by first | exact Nat.le_refl _ | exact hg7)) ?_
     clear hK K
     refine wpTree_fin ?_
     go_wp2_with fail
     go_meet
     case rel => exact ⟨((w18).heap.size), A7, c7, A77, c77, rfl, rfl, hS7, (hu1.below (by (repeat first|exact J0|assumption|(apply J1;assumption)|apply J2|apply J3|apply J4))).pastC hS1 (by decide) hc7, (hu2.below (by (repeat first|exact J0|assumption|(apply J1;assumption)|apply J2|apply J3|apply J4))).pastC hS1 (by decide) hc7, hb7⟩
    ·have hS0 := Blk.new (w17) 30 #[.string ⟨#[]⟩, .int .i64 0, .slice none 0 0, .slice none 0 0]
     intro K hK
     go_simp
     refine hK _ _ (by (repeat first|exact J0|assumption|(apply J1;assumption)|apply J2|apply J3|apply J4)) ?_
     clear hK K
     refine wpTree_alt (wpTree_br rfl rfl ?_ wpTree_stop)
     intro K hK
     go_simp
     refine (hch _ _ _ ((hO16.rd ec_len).below (by (repeat first|exact J0|assumption|(apply J1;assumption)|apply J2|apply J3|apply J4))) ((hO17.rd ec_len).below (by (repeat first|exact J0|assumption|(apply J1;assumption)|apply J2|apply J3|apply J4)))).mono ?_
     rintro e w18 ⟨rfl, hb18⟩
     refine hK _ _ (by (repeat first|exact J0|assumption|(apply J1;assumption)|apply J2|apply J3|apply J4)) ?_
     clear hK K
     obtain ⟨A7, c7, A77, c77, hcv, hu1, hu2⟩ := hown1 w15.heap.size _ w18 _ _ ((hO16.below (by (repeat first|exact J0|assumption|(apply J1;assumption)|apply J2|apply J3|apply J4))).base_mono (Below.size (by (repeat first|exact J0|assumption|(apply J1;assumption)|apply J2|apply J3|apply J4)))) ((hO17.below (by (repeat first|exact J0|assumption|(apply J1;assumption)|apply J2|apply J3|apply J4))).base_mono (Below.size (by (repeat first|exact J0|assumption|(apply J1;assumption)|apply J2|apply J3|apply J4)))) hb18
     rw [hcv]
     refine wpTree_take rfl rfl ?_; intro K hK; simp only [Array.getD_eq_getD_getElem?, List.getElem?_toArray, List.getElem?_cons_succ, List.getElem?_cons_zero, Option.getD_some]; go_big_quiet_op; go_big_quiet_on
     refine wpTree_take rfl rfl ?_; intro K hK; simp only [Array.getD_eq_getD_getElem?, List.getElem?_toArray, List.getElem?_cons_succ, List.getElem?_cons_zero, Option.getD_some]; go_big_quiet_op; go_big_quiet_on
     refine wpTree_take rfl rfl ?_; intro K hK; simp only [Array.getD_eq_getD_getElem?, List.getElem?_toArray, List.getElem?_cons_succ, List.getElem?_cons_zero, Option.getD_some]; go_big_quiet_op; go_big_quiet_on
     refine wpTree_alt (wpTree_br rfl rfl ?_ wpTree_stop)
     have hS1 := hS0.below (show Below _ _ (w18) by (repeat first|exact J0|assumption|(apply J1;assumption)|apply J2|apply J3|apply J4))
     intro K hK
     simp only [Array.getD_eq_getD_getElem?, List.getElem?_toArray, List.getElem?_cons_succ, List.getElem?_cons_zero, Option.getD_some]
     refine op_store_blk hS1 _ _ _ rfl rfl rfl rfl (by kernel_rfl) (by kernel_rfl) ?_
     intro w7 hS7 hc7
     have hg7 : w15.heap.size ≤ (w17).heap.size := Below.size (show Below w15.heap.size w15 (w17) by (repeat first|exact J0|assumption|(apply J1;assumption)|apply J2|apply J3|apply J4))
     have hb7 : Below w15.heap.size w15 w7 := chg_bl (by (repeat first|exact J0|assumption|(apply J1;assumption)|apply J2|apply J3|apply J4)) hc7 hg7
     refine hK _ _ (chg_bl (by (repeat first|exact J0|assumption|(apply J1;assumption)|apply J2|apply J3|apply J4)) hc7 (by first | exact Nat.le_refl _ | exact hg7)) ?_
     clear hK K
     refine wpTree_fin ?_
     go_wp2_with fail
     go_meet
     case rel => exact ⟨((w17).heap.size), A7, c7, A77, c77, rfl, rfl, hS7, (hu1.below (by (repeat first|exact J0|assumption|(apply J1;assumption)|apply J2|apply J3|apply J4))).pastC hS1 (by decide) hc7, (hu2.below (by (repeat first|exact J0|assumption|(apply J1;assumption)|apply J2|apply J3|apply J4))).pastC hS1 (by decide) hc7, hb7⟩
   ·have hS0 := Blk.new (w16) 30 #[.string ⟨#[]⟩, .int .i64 0, .slice none 0 0, .slice none 0 0]
    intro K hK
    go_simp
    refine hK _ _ (by (repeat first|exact J0|assumption|(apply J1;assumption)|apply J2|apply J3|apply J4)) ?_
    clear hK K
    refine wpTree_alt (wpTree_br rfl rfl ?_ wpTree_stop)
    intro K hK
    go_simp
    refine (pA2 _ _ _ (rr.below (by (repeat first|exact J0|assumption|(apply J1;assumption)|apply J2|apply J3|apply J4)))).mono ?_
    rintro e w17 ⟨v17, rfl, hO17, hb17⟩
    refine hK _ _ (by (repeat first|exact J0|assumption|(apply J1;assumption)|apply J2|apply J3|apply J4)) ?_
    clear hK K
    obtain ⟨A17, c17, rfl⟩ := hO17.shape
    refine wpTree_take rfl rfl ?_; intro K hK; simp only [Array.getD_eq_getD_getElem?, List.getElem?_toArray, List.getElem?_cons_succ, List.getElem?_cons_zero, Option.getD_some]; go_big_quiet_op; go_big_quiet_on
    refine wpTree_alt (wpTree_br rfl rfl ?_ wpTree_stop)
    intro K hK
    go_simp
    refine (hch _ _ _ ((hO16.rd ec_len).below (by (repeat first|exact J0|assumption|(apply J1;assumption)|apply J2|apply J3|apply J4))) ((hO17.rd ec_len).below (by (repeat first|exact J0|assumption|(apply J1;assumption)|apply J2|apply J3|apply J4)))).mono ?_
    rintro e w18 ⟨rfl, hb18⟩
    refine hK _ _ (by (repeat first|exact J0|assumption|(apply J1;assumption)|apply J2|apply J3|apply J4)) ?_
    clear hK K
    obtain ⟨A7, c7, A77, c77, hcv, hu1, hu2⟩ := hown1 w15.heap.size _ w18 _ _ ((hO16.below (by (repeat first|exact J0|assumption|(apply J1;assumption)|apply J2|apply J3|apply J4))).base_mono (Below.size (by (repeat first|exact J0|assumption|(apply J1;assumption)|apply J2|apply J3|apply J4)))) ((hO17.below (by (repeat first|exact J0|assumption|(apply J1;assumption)|apply J2|apply J3|apply J4))).base_mono (Below.size (by (repeat first|exact J0|assumption|(apply J1;assumption)|apply J2|apply J3|apply J4)))) hb18
    rw [hcv]
    refine wpTree_take rfl rfl ?_; intro K hK; simp only [Array.getD_eq_getD_getElem?, List.getElem?_toArray, List.getElem?_cons_succ, List.getElem?_cons_zero, Option.getD_some]; go_big_quiet_op; go_big_quiet_on
    refine wpTree_take rfl rfl ?_; intro K hK; simp only [Array.getD_eq_getD_getElem?, List.getElem?_toArray, List.getElem?_cons_succ, List.getElem?_cons_zero, Option.getD_some]; go_big_quiet_op; go_big_quiet_on
    refine wpTree_take rfl rfl ?_; intro K hK; simp only [Array.getD_eq_getD_getElem?, List.getElem?_toArray, List.getElem?_cons_succ, List.getElem?_cons_zero, Option.getD_some]; go_big_quiet_op; go_big_quiet_on
    refine wpTree_alt (wpTree_br rfl rfl ?_ wpTree_stop)
    have hS1 := hS0.below (show Below _ _ (w18) by (repeat first|exact J0|assumption|(apply J1;assumption)|apply J2|apply J3|apply J4))
    intro K hK
    simp only [Array.getD_eq_getD_getElem?, List.getElem?_toArray, List.getElem?_cons_succ, List.getElem?_cons_zero, Option.getD_some]
    refine op_store_blk hS1 _ _ _ rfl rfl rfl rfl (by kernel_rfl) (by kernel_rfl) ?_
    intro w7 hS7 hc7
    have hg7 : w15.heap.size ≤ (w16).heap.size := Below.size (show Below w15.heap.size w15 (w16) by (repeat first|exact J0|assumption|(apply J1;assumption)|apply J2|apply J3|apply J4))
    have hb7 : Below w15.heap.size w15 w7 := chg_bl (by (repeat first|exact J0|assumption|(apply J1;assumption)|apply J2|apply J3|apply J4)) hc7 hg7
    refine hK _ _ (chg_bl (by (repeat first|exact J0|assumption|(apply J1;assumption)|apply J2|apply J3|apply J4)) hc7 (by first | exact Nat.le_refl _ | exact hg7)) ?_
    clear hK K
    refine wpTree_fin ?_
    go_wp2_with fail
    go_meet
    case rel => exact ⟨((w16).heap.size), A7, c7, A77, c77, rfl, rfl, hS7, (hu1.below (by (repeat first|exact J0|assumption|(apply J1;assumption)|apply J2|apply J3|apply J4))).pastC hS1 (by decide) hc7, (hu2.below (by (repeat first|exact J0|assumption|(apply J1;assumption)|apply J2|apply J3|apply J4))).pastC hS1 (by decide) hc7, hb7⟩
  ·have hS0 := Blk.new (w15.drew) 30 #[.string ⟨#[]⟩, .int .i64 0, .slice none 0 0, .slice none 0 0]
   intro K hK
   go_simp
   refine hK _ _ (by (repeat first|exact J0|assumption|(apply J1;assumption)|apply J2|apply J3|apply J4)) ?_
   clear hK K
   refine wpTree_alt (wpTree_br rfl rfl ?_ wpTree_stop)
   intro K hK
   go_simp
   refine (pA1 _ _ _ (rl.below (by (repeat first|exact J0|assumption|(apply J1;assumption)|apply J2|apply J3|apply J4)))).mono ?_
   rintro e w16 ⟨v16, rfl, hO16, hb16⟩
   refine hK _ _ (by (repeat first|exact J0|assumption|(apply J1;assumption)|apply J2|apply J3|apply J4)) ?_
   clear hK K
   obtain ⟨A16, c16, rfl⟩ := hO16.shape
   refine wpTree_alt (wpTree_br rfl rfl ?_ wpTree_stop)
   intro K hK
   go_simp
   refine (pA2 _ _ _ (rr.below (by (repeat first|exact J0|assumption|(apply J1;assumption)|apply J2|apply J3|apply J4)))).mono ?_
   rintro e w17 ⟨v17, rfl, hO17, hb17⟩
   refine hK _ _ (by (repeat first|exact J0|assumption|(apply J1;assumption)|apply J2|apply J3|apply J4)) ?_
   clear hK K
   obtain ⟨A17, c17, rfl⟩ := hO17.shape
   refine wpTree_take rfl rfl ?_; intro K hK; simp only [Array.getD_eq_getD_getElem?, List.getElem?_toArray, List.getElem?_cons_succ, List.getElem?_cons_zero, Option.getD_some]; go_big_quiet_op; go_big_quiet_on
   refine wpTree_alt (wpTree_br rfl rfl ?_ wpTree_stop)
   intro K hK
   go_simp
   refine (hch _ _ _ ((hO16.rd ec_len).below (by (repeat first|exact J0|assumption|(apply J1;assumption)|apply J2|apply J3|apply J4))) ((hO17.rd ec_len).below (by (repeat first|exact J0|assumption|(apply J1;assumption)|apply J2|apply J3|apply J4)))).mono ?_
   rintro e w18 ⟨rfl, hb18⟩
   refine hK _ _ (by (repeat first|exact J0|assumption|(apply J1;assumption)|apply J2|apply J3|apply J4)) ?_
   clear hK K
   obtain ⟨A7, c7, A77, c77, hcv, hu1, hu2⟩ := hown1 w15.heap.size _ w18 _ _ ((hO16.below (by (repeat first|exact J0|assumption|(apply J1;assumption)|apply J2|apply J3|apply J4))).base_mono (Below.size (by (repeat first|exact J0|assumption|(apply J1;assumption)|apply J2|apply J3|apply J4)))) ((hO17.below (by (repeat first|exact J0|assumption|(apply J1;assumption)|apply J2|apply J3|apply J4))).base_mono (Below.size (by (repeat first|exact J0|assumption|(apply J1;assumption)|apply J2|apply J3|apply J4)))) hb18
   rw [hcv]
   refine wpTree_take rfl rfl ?_; intro K hK; simp only [Array.getD_eq_getD_getElem?, List.getElem?_toArray, List.getElem?_cons_succ, List.getElem?_cons_zero, Option.getD_some]; go_big_quiet_op; go_big_quiet_on
   refine wpTree_take rfl rfl ?_; intro K hK; simp only [Array.getD_eq_getD_getElem?, List.getElem?_toArray, List.getElem?_cons_succ, List.getElem?_cons_zero, Option.getD_some]; go_big_quiet_op; go_big_quiet_on
   refine wpTree_take rfl rfl ?_; intro K hK; simp only [Array.getD_eq_getD_getElem?, List.getElem?_toArray, List.getElem?_cons_succ, List.getElem?_cons_zero, Option.getD_some]; go_big_quiet_op; go_big_quiet_on
   refine wpTree_alt (wpTree_br rfl rfl ?_ wpTree_stop)
   have hS1 := hS0.below (show Below _ _ (w18) by (repeat first|exact J0|assumption|(apply J1;assumption)|apply J2|apply J3|apply J4))
   intro K hK
   simp only [Array.getD_eq_getD_getElem?, List.getElem?_toArray, List.getElem?_cons_succ, List.getElem?_cons_zero, Option.getD_some]
   refine op_store_blk hS1 _ _ _ rfl rfl rfl rfl (by kernel_rfl) (by kernel_rfl) ?_
   intro w7 hS7 hc7
   have hg7 : w15.heap.size ≤ (w15.drew).heap.size := Below.size (show Below w15.heap.size w15 (w15.drew) by (repeat first|exact J0|assumption|(apply J1;assumption)|apply J2|apply J3|apply J4))
   have hb7 : Below w15.heap.size w15 w7 := chg_bl (by (repeat first|exact J0|assumption|(apply J1;assumption)|apply J2|apply J3|apply J4)) hc7 hg7
   refine hK _ _ (chg_bl (by (repeat first|exact J0|assumption|(apply J1;assumption)|apply J2|apply J3|apply J4)) hc7 (by first | exact Nat.le_refl _ | exact hg7)) ?_
   clear hK K
   refine wpTree_fin ?_
   go_wp2_with fail
   go_meet
   case rel => exact ⟨((w15.drew).heap.size), A7, c7, A77, c77, rfl, rfl, hS7, (hu1.below (by (repeat first|exact J0|assumption|(apply J1;assumption)|apply J2|apply J3|apply J4))).pastC hS1 (by decide) hc7, (hu2.below (by (repeat first|exact J0|assumption|(apply J1;assumption)|apply J2|apply J3|apply J4))).pastC hS1 (by decide) hc7, hb7⟩
 case rest =>
  obtain ⟨g14, A7, c7, A77, c77, rfl, rfl, hS14, hu1, hu2, hbc⟩ := hcut
  obtain ⟨w20, rfl⟩ : ∃ x, x = wc := ⟨_, rfl⟩
  have hP20 := hP15.below hbc
  have hZ20 := hZ15.below hbc
  have rl20 := rl.below hbc
  have rr20 := rr.below hbc
  have s8c := s8b.below hbc
  have s9c := s9b.below hbc
  have hW20 := bl_then hbc HW15.out
  have hzw : w.heap.size + 1 < w11.heap.size := hzw0
  have hwz : w.heap.size ≤ w15.heap.size := by omega
  have hzc := hbc.size
  have fZ20 := hZ20.facts
  clear hP15 hZ15 rl rr s8b s9b fP15 HW15
  by_cases hea : EA = 0
  ·have tEA : (EA != 0) = false := by simp [hea]
   have hqa := HQA.out
   rw [if_pos hea] at hqa
   subst hqa
   have hH1 : Hid ((EB = 0 → F1 = (p.1, p.2.1, plnL (SL.take i), plnL (SR.take k)) ∧ F2 = (p.1, (xk - xi).tdiv 2, plnL (SL.drop i), plnL (SR.drop k)) ∧ FE = 0) ∧ (EB ≠ 0 → F1 = panZ ∧ F2 = panZ ∧ FE = EB)) := by
    refine ⟨fun hb => ⟨?_, ?_, ?_⟩, fun hb => ⟨?_, ?_, ?_⟩⟩
    ·rw [← HF1.out, if_pos ⟨hea, hb⟩]
    ·rw [← HF2.out, if_pos ⟨hea, hb⟩]
    ·rw [← HFE.out, hea, hb]; rfl
    ·rw [← HF1.out, if_neg (fun h => hb h.2)]
    ·rw [← HF2.out, if_neg (fun h => hb h.2)]
    ·rw [← HFE.out, hea]; show (if (0 : Int) = 0 then (if EB = 0 then 0 else EB) else 0) = EB; rw [if_pos rfl, if_neg hb]
   subst hea
   clear HQA HF1 HF2 HFE
   simp only at hS14 hu1 hu2
   obtain ⟨b8, off8, rfl, hb8x, p8, _⟩ := s8c.knot hi4
   obtain ⟨b9, off9, rfl, hb9x, p9, _⟩ := s9c.knot hk4
   rw [gi] at p8
   rw [gk] at p9
   simp only at p8 p9
   obtain ⟨A21, c21, hrun1, hr21⟩ := slice_from rl20 (by omega) hm13 (by omega : i ≤ SL.length)
   obtain ⟨A22, c22, hrun2, hr22⟩ := slice_from rr20 (by omega) hm15 (by omega : k ≤ SR.length)
   rw [hnl] at hrun1
   rw [hnr] at hrun2
   have fP20 := hP20.facts
   clear gi gk s8c s9c rl20 rr20
   go_upto_region 15 with fail
   go_upto_region 15 with fail
   go_cut [16, 15] from 78 ((fun s16 s15 wx => ∃ g A c B d, s16 = .pointer (some ⟨g, 0, none⟩) ∧ s15 = .int .i64 EB ∧ Blk wx g 30 #[.string ⟨QB.1.toArray⟩, .int .i64 QB.2.1, .slice A QB.2.2.1.length c, .slice B QB.2.2.2.length d] ∧ Own ec 3 w20.heap.size 107 wx (.slice A QB.2.2.1.length c) QB.2.2.1 ∧ Own ec 3 w20.heap.size 107 wx (.slice B QB.2.2.2.length d) QB.2.2.2 ∧ Below w20.heap.size w20 wx))
   case first =>
    refine wp_region_tree [0, 1, 2, 3, 4, 5, 6, 7, 8, 9, 10, 11, 12, 13, 14, 15, 16, 18, 19, 20] (.alt (.br 17 (.alt (.br 21 (.take 22 (.alt (.br 23 (.take 24 (.take 25 (.take 26 (.alt (.br 27 (.alt (.br 28 (.fin) (.stop))) (.stop)))))) (.br 27 (.alt (.br 23 (.take 24 (.take 25 (.take 26 (.alt (.br 28 (.fin) (.stop)))))) (.stop))) (.stop))))) (.br 27 (.alt (.br 21 (.take 22 (.alt (.br 23 (.take 24 (.take 25 (.take 26 (.alt (.br 28 (.fin) (.stop)))))) (.stop)))) (.stop))) (.stop)))) (.br 27 (.alt (.br 17 (.alt (.br 21 (.take 22 (.alt (.br 23 (.take 24 (.take 25 (.take 26 (.alt (.br 28 (.fin) (.stop)))))) (.stop)))) (.stop))) (.stop))) (.stop)))) [29] (by kernel_rfl) (by kernel_rfl) (fun d _ _ _ _ h => by cases d <;> exact h) ?_
    simp only [List.map_cons, List.map_nil, List.getD_cons_zero, List.getD_cons_succ]
    repeat (go_big_quiet_step (fail))
    refine wpQuiet_nil ?_
    refine wpTree_alt (wpTree_br rfl rfl ?_ (wpTree_br rfl rfl ?_ wpTree_stop))
    ·intro K hK
     go_simp
     refine (pB1 _ _ _ (hr21.below (by (repeat first|exact J0|assumption|(apply J1;assumption)|apply J2|apply J3|apply J4)))).mono ?_
     rintro e w26 ⟨v26, rfl, hO26, hb26⟩
     refine hK _ _ (by (repeat first|exact J0|assumption|(apply J1;assumption)|apply J2|apply J3|apply J4)) ?_
     clear hK K
     obtain ⟨A26, c26, rfl⟩ := hO26.shape
     refine wpTree_alt (wpTree_br rfl rfl ?_ (wpTree_br rfl rfl ?_ wpTree_stop))
     ·intro K hK
      go_simp
      refine (pB2 _ _ _ (hr22.below (by (repeat first|exact J0|assumption|(apply J1;assumption)|apply J2|apply J3|apply J4)))).mono ?_
      rintro e w27 ⟨v27, rfl, hO27, hb27⟩
      refine hK _ _ (by (repeat first|exact J0|assumption|(apply J1;assumption)|apply J2|apply J3|apply J4)) ?_
      clear hK K
      obtain ⟨A27, c27, rfl⟩ := hO27.shape
      refine wpTree_take rfl rfl ?_; intro K hK; simp only [Array.getD_eq_getD_getElem?, List.getElem?_toArray, List.getElem?_cons_succ, List.getElem?_cons_zero, Option.getD_some]; go_big_quiet_op; go_big_quiet_on
      refine wpTree_alt (wpTree_br rfl rfl ?_ (wpTree_br rfl rfl ?_ wpTree_stop))
      ·intro K hK
       go_simp
       refine (hcg _ _ _ ((hO26.rd ec_len).below (by (repeat first|exact J0|assumption|(apply J1;assumption)|apply J2|apply J3|apply J4))) ((hO27.rd ec_len).below (by (repeat first|exact J0|assumption|(apply J1;assumption)|apply J2|apply J3|apply J4)))).mono ?_
       rintro e w28 ⟨rfl, hb28⟩
       refine hK _ _ (by (repeat first|exact J0|assumption|(apply J1;assumption)|apply J2|apply J3|apply J4)) ?_
       clear hK K
       obtain ⟨A9x, c9x, A99, c99, hcv, hv1, hv2⟩ := hown2 w20.heap.size _ w28 _ _ ((hO26.below (by (repeat first|exact J0|assumption|(apply J1;assumption)|apply J2|apply J3|apply J4))).base_mono (Below.size (by (repeat first|exact J0|assumption|(apply J1;assumption)|apply J2|apply J3|apply J4)))) ((hO27.below (by (repeat first|exact J0|assumption|(apply J1;assumption)|apply J2|apply J3|apply J4))).base_mono (Below.size (by (repeat first|exact J0|assumption|(apply J1;assumption)|apply J2|apply J3|apply J4)))) hb28
       rw [hcv]
       refine wpTree_take rfl rfl ?_; intro K hK; simp only [Array.getD_eq_getD_getElem?, List.getElem?_toArray, List.getElem?_cons_succ, List.getElem?_cons_zero, Option.getD_some]; go_big_quiet_op; go_big_quiet_on
       refine wpTree_take rfl rfl ?_; intro K hK; simp only [Array.getD_eq_getD_getElem?, List.getElem?_toArray, List.getElem?_cons_succ, List.getElem?_cons_zero, Option.getD_some]; go_big_quiet_op; go_big_quiet_on
       refine wpTree_take rfl rfl ?_; intro K hK; simp only [Array.getD_eq_getD_getElem?, List.getElem?_toArray, List.getElem?_cons_succ, List.getElem?_cons_zero, Option.getD_some]; go_big_quiet_op; go_big_quiet_on
       refine wpTree_alt (wpTree_br rfl rfl ?_ wpTree_stop)
       have hS0 := Blk.new (w28) 30 #[.string ⟨#[]⟩, .int .i64 0, .slice none 0 0, .slice none 0 0]
       intro K hK
       go_simp
       refine hK _ _ (by (repeat first|exact J0|assumption|(apply J1;assumption)|apply J2|apply J3|apply J4)) ?_
       clear hK K
       refine wpTree_alt (wpTree_br rfl rfl ?_ wpTree_stop)
       have hS1 := hS0.below (show Below _ _ (w28.alloc (.cells #[.string ⟨#[]⟩, .int .i64 0, .slice none 0 0, .slice none 0 0] 30)) by (repeat first|exact J0|assumption|(apply J1;assumption)|apply J2|apply J3|apply J4))
       intro K hK
       simp only [Array.getD_eq_getD_getElem?, List.getElem?_toArray, List.getElem?_cons_succ, List.getElem?_cons_zero, Option.getD_some]
       refine op_store_blk hS1 _ _ _ rfl rfl rfl rfl (by kernel_rfl) (by kernel_rfl) ?_
       intro w7 hS7 hc7
       have hg7 : w20.heap.size ≤ (w28).heap.size := Below.size (show Below w20.heap.size w20 (w28) by (repeat first|exact J0|assumption|(apply J1;assumption)|apply J2|apply J3|apply J4))
       have hb7 : Below w20.heap.size w20 w7 := chg_bl (by (repeat first|exact J0|assumption|(apply J1;assumption)|apply J2|apply J3|apply J4)) hc7 hg7
       refine hK _ _ (chg_bl (by (repeat first|exact J0|assumption|(apply J1;assumption)|apply J2|apply J3|apply J4)) hc7 (by first | exact Nat.le_refl _ | exact hg7)) ?_
       clear hK K
       refine wpTree_fin ?_
       go_wp2_with fail
       go_meet
       case rel => exact ⟨((w28).heap.size), A9x, c9x, A99, c99, rfl, rfl, hS7, (hv1.below (by (repeat first|exact J0|assumption|(apply J1;assumption)|apply J2|apply J3|apply J4))).pastC hS1 (by decide) hc7, (hv2.below (by (repeat first|exact J0|assumption|(apply J1;assumption)|apply J2|apply J3|apply J4))).pastC hS1 (by decide) hc7, hb7⟩
      ·have hS0 := Blk.new (w27) 30 #[.string ⟨#[]⟩, .int .i64 0, .slice none 0 0, .slice none 0 0]
       intro K hK
       go_simp
       refine hK _ _ (by (repeat first|exact J0|assumption|(apply J1;assumption)|apply J2|apply J3|apply J4)) ?_
       clear hK K
       refine wpTree_alt (wpTree_br rfl rfl ?_ wpTree_stop)
       intro K hK
       go_simp
       refine (hcg _ _ _ ((hO26.rd ec_len).below (by (repeat first|exact J0|assumption|(apply J1;assumption)|apply J2|apply J3|apply J4))) ((hO27.rd ec_len).below (by (repeat first|exact J0|assumption|(apply J1;assumption)|apply J2|apply J3|apply J4)))).mono ?_
       rintro e w28 ⟨rfl, hb28⟩
       refine hK _ _ (by (repeat first|exact J0|assumption|(apply J1;assumption)|apply J2|apply J3|apply J4)) ?_
       clear hK K
       obtain ⟨A9x, c9x, A99, c99, hcv, hv1, hv2⟩ := hown2 w20.heap.size _ w28 _ _ ((hO26.below (by (repeat first|exact J0|assumption|(apply J1;assumption)|apply J2|apply J3|apply J4))).base_mono (Below.size (by (repeat first|exact J0|assumption|(apply J1;assumption)|apply J2|apply J3|apply J4)))) ((hO27.below (by (repeat first|exact J0|assumption|(apply J1;assumption)|apply J2|apply J3|apply J4))).base_mono (Below.size (by (repeat first|exact J0|assumption|(apply J1;assumption)|apply J2|apply J3|apply J4)))) hb28
       rw [hcv]
       refine wpTree_take rfl rfl ?_; intro K hK; simp only [Array.getD_eq_getD_getElem?, List.getElem?_toArray, List.getElem?_cons_succ, List.getElem?_cons_zero, Option.getD_some]; go_big_quiet_op; go_big_quiet_on
       refine wpTree_take rfl rfl ?_; intro K hK; simp only [Array.getD_eq_getD_getElem?, List.getElem?_toArray, List.getElem?_cons_succ, List.getElem?_cons_zero, Option.getD_some]; go_big_quiet_op; go_big_quiet_on
       refine wpTree_take rfl rfl ?_; intro K hK; simp only [Array.getD_eq_getD_getElem?, List.getElem?_toArray, List.getElem?_cons_succ, List.getElem?_cons_zero, Option.getD_some]; go_big_quiet_op; go_big_quiet_on
       refine wpTree_alt (wpTree_br rfl rfl ?_ wpTree_stop)
       have hS1 := hS0.below (show Below _ _ (w28) by (repeat first|exact J0|assumption|(apply J1;assumption)|apply J2|apply J3|apply J4))
       intro K hK
       simp only [Array.getD_eq_getD_getElem?, List.getElem?_toArray, List.getElem?_cons_succ, List.getElem?_cons_zero, Option.getD_some]
       refine op_store_blk hS1 _ _ _ rfl rfl rfl rfl (by kernel_rfl) (by kernel_rfl) ?_
       intro w7 hS7 hc7
       have hg7 : w20.heap.size ≤ (w27).heap.size := Below.size (show Below w20.heap.size w20 (w27) by (repeat first|exact J0|assumption|(apply J1;assumption)|apply J2|apply J3|apply J4))
       have hb7 : Below w20.heap.size w20 w7 := chg_bl (by (repeat first|exact J0|assumption|(apply J1;assumption)|apply J2|apply J3|apply J4)) hc7 hg7
       refine hK _ _ (chg_bl (by (repeat first|exact J0|assumption|(apply J1;assumption)|apply J2|apply J3|apply J4)) hc7 (by first | exact Nat.le_refl _ | exact hg7)) ?_
       clear hK K
       refine wpTree_fin ?_
       go_wp2_with fail
       go_meet
       case rel => exact ⟨((w27).heap.size), A9x, c9x, A99, c99, rfl, rfl, hS7, (hv1.below (by (repeat first|exact J0|assumption|(apply J1;assumption)|apply J2|apply J3|apply J4))).pastC hS1 (by decide) hc7, (hv2.below (by (repeat first|exact J0|assumption|(apply J1;assumption)|apply J2|apply J3|apply J4))).pastC hS1 (by decide) hc7, hb7⟩
     ·have hS0 := Blk.new (w26) 30 #[.string ⟨#[]⟩, .int .i64 0, .slice none 0 0, .slice none 0 0]
      intro K hK
      go_simp
      refine hK _ _ (by (repeat first|exact J0|assumption|(apply J1;assumption)|apply J2|apply J3|apply J4)) ?_
      clear hK K
      refine wpTree_alt (wpTree_br rfl rfl ?_ wpTree_stop)
      intro K hK
      go_simp
      refine (pB2 _ _ _ (hr22.below (by (repeat first|exact J0|assumption|(apply J1;assumption)|apply J2|apply J3|apply J4)))).mono ?_
      rintro e w27 ⟨v27, rfl, hO27, hb27⟩
      refine hK _ _ (by (repeat first|exact J0|assumption|(apply J1;assumption)|apply J2|apply J3|apply J4)) ?_
      clear hK K
      obtain ⟨A27, c27, rfl⟩ := hO27.shape
      refine wpTree_take rfl rfl ?_; intro K hK; simp only [Array.getD_eq_getD_getElem?, List.getElem?_toArray, List.getElem?_cons_succ, List.getElem?_cons_zero, Option.getD_some]; go_big_quiet_op; go_big_quiet_on
      refine wpTree_alt (wpTree_br rfl rfl ?_ wpTree_stop)
      intro K hK
      go_simp
      refine (hcg _ _ _ ((hO26.rd ec_len).below (by (repeat first|exact J0|assumption|(apply J1;assumption)|apply J2|apply J3|apply J4))) ((hO27.rd ec_len).below (by (repeat first|exact J0|assumption|(apply J1;assumption)|apply J2|apply J3|apply J4)))).mono ?_
      rintro e w28 ⟨rfl, hb28⟩
      refine hK _ _ (by (repeat first|exact J0|assumption|(apply J1;assumption)|apply J2|apply J3|apply J4)) ?_
      clear hK K
      obtain ⟨A9x, c9x, A99, c99, hcv, hv1, hv2⟩ := hown2 w20.heap.size _ w28 _ _ ((hO26.below (by (repeat first|exact J0|assumption|(apply J1;assumption)|apply J2|apply J3|apply J4))).base_mono (Below.size (by (repeat first|exact J0|assumption|(apply J1;assumption)|apply J2|apply J3|apply J4)))) ((hO27.below (by (repeat first|exact J0|assumption|(apply J1;assumption)|apply J2|apply J3|apply J4))).base_mono (Below.size (by (repeat first|exact J0|assumption|(apply J1;assumption)|apply J2|apply J3|apply J4)))) hb28
      rw [hcv]
      refine wpTree_take rfl rfl ?_; intro K hK; simp only [Array.getD_eq_getD_getElem?, List.getElem?_toArray, List.getElem?_cons_succ, List.getElem?_cons_zero, Option.getD_some]; go_big_quiet_op; go_big_quiet_on
      refine wpTree_take rfl rfl ?_; intro K hK; simp only [Array.getD_eq_getD_getElem?, List.getElem?_toArray, List.getElem?_cons_succ, List.getElem?_cons_zero, Option.getD_some]; go_big_quiet_op; go_big_quiet_on
      refine wpTree_take rfl rfl ?_; intro K hK; simp only [Array.getD_eq_getD_getElem?, List.getElem?_toArray, List.getElem?_cons_succ, List.getElem?_cons_zero, Option.getD_some]; go_big_quiet_op; go_big_quiet_on
      refine wpTree_alt (wpTree_br rfl rfl ?_ wpTree_stop)
      have hS1 := hS0.below (show Below _ _ (w28) by (repeat first|exact J0|assumption|(apply J1;assumption)|apply J2|apply J3|apply J4))
      intro K hK
      simp only [Array.getD_eq_getD_getElem?, List.getElem?_toArray, List.getElem?_cons_succ, List.getElem?_cons_zero, Option.getD_some]
      refine op_store_blk hS1 _ _ _ rfl rfl rfl rfl (by kernel_rfl) (by kernel_rfl) ?_
      intro w7 hS7 hc7
      have hg7 : w20.heap.size ≤ (w26).heap.size := Below.size (show Below w20.heap.size w20 (w26) by (repeat first|exact J0|assumption|(apply J1;assumption)|apply J2|apply J3|apply J4))
      have hb7 : Below w20.heap.size w20 w7 := chg_bl (by (repeat first|exact J0|assumption|(apply J1;assumption)|apply J2|apply J3|apply J4)) hc7 hg7
      refine hK _ _ (chg_bl (by (repeat first|exact J0|assumption|(apply J1;assumption)|apply J2|apply J3|apply J4)) hc7 (by first | exact Nat.le_refl _ | exact hg7)) ?_
      clear hK K
      refine wpTree_fin ?_
      go_wp2_with fail
      go_meet
      case rel => exact ⟨((w26).heap.size), A9x, c9x, A99, c99, rfl, rfl, hS7, (hv1.below (by (repeat first|exact J0|assumption|(apply J1;assumption)|apply J2|apply J3|apply J4))).pastC hS1 (by decide) hc7, (hv2.below (by (repeat first|exact J0|assumption|(apply J1;assumption)|apply J2|apply J3|apply J4))).pastC hS1 (by decide) hc7, hb7⟩
    ·have hS0 := Blk.new (w20.drew) 30 #[.string ⟨#[]⟩, .int .i64 0, .slice none 0 0, .slice none 0 0]
     intro K hK
     go_simp
     refine hK _ _ (by (repeat first|exact J0|assumption|(apply J1;assumption)|apply J2|apply J3|apply J4)) ?_
     clear hK K
     refine wpTree_alt (wpTree_br rfl rfl ?_ wpTree_stop)
     intro K hK
     go_simp
     refine (pB1 _ _ _ (hr21.below (by (repeat first|exact J0|assumption|(apply J1;assumption)|apply J2|apply J3|apply J4)))).mono ?_
     rintro e w26 ⟨v26, rfl, hO26, hb26⟩
     refine hK _ _ (by (repeat first|exact J0|assumption|(apply J1;assumption)|apply J2|apply J3|apply J4)) ?_
     clear hK K
     obtain ⟨A26, c26, rfl⟩ := hO26.shape
     refine wpTree_alt (wpTree_br rfl rfl ?_ wpTree_stop)
     intro K hK
     go_simp
     refine (pB2 _ _ _ (hr22.below (by (repeat first|exact J0|assumption|(apply J1;assumption)|apply J2|apply J3|apply J4)))).mono ?_
     rintro e w27 ⟨v27, rfl, hO27, hb27⟩
     refine hK _ _ (by (repeat first|exact J0|assumption|(apply J1;assumption)|apply J2|apply J3|apply J4)) ?_
     clear hK K
     obtain ⟨A27, c27, rfl⟩ := hO27.shape
     refine wpTree_take rfl rfl ?_; intro K hK; simp only [Array.getD_eq_getD_getElem?, List.getElem?_toArray, List.getElem?_cons_succ, List.getElem?_cons_zero, Option.getD_some]; go_big_quiet_op; go_big_quiet_on
     refine wpTree_alt (wpTree_br rfl rfl ?_ wpTree_stop)
     intro K hK
     go_simp
     refine (hcg _ _ _ ((hO26.rd ec_len).below (by (repeat first|exact J0|assumption|(apply J1;assumption)|apply J2|apply J3|apply J4))) ((hO27.rd ec_len).below (by (repeat first|exact J0|assumption|(apply J1;assumption)|apply J2|apply J3|apply J4)))).mono ?_
     rintro e w28 ⟨rfl, hb28⟩
     refine hK _ _ (by (repeat first|exact J0|assumption|(apply J1;assumption)|apply J2|apply J3|apply J4)) ?_
     clear hK K
     obtain ⟨A9x, c9x, A99, c99, hcv, hv1, hv2⟩ := hown2 w20.heap.size _ w28 _ _ ((hO26.below (by (repeat first|exact J0|assumption|(apply J1;assumption)|apply J2|apply J3|apply J4))).base_mono (Below.size (by (repeat first|exact J0|assumption|(apply J1;assumption)|apply J2|apply J3|apply J4)))) ((hO27.below (by (repeat first|exact J0|assumption|(apply J1;assumption)|apply J2|apply J3|apply J4))).base_mono (Below.size (by (repeat first|exact J0|assumption|(apply J1;assumption)|apply J2|apply J3|apply J4)))) hb28
     rw [hcv]
     refine wpTree_take rfl rfl ?_; intro K hK; simp only [Array.getD_eq_getD_getElem?, List.getElem?_toArray, List.getElem?_cons_succ, List.getElem?_cons_zero, Option.getD_some]; go_big_quiet_op; go_big_quiet_on
     refine wpTree_take rfl rfl ?_; intro K hK; simp only [Array.getD_eq_getD_getElem?, List.getElem?_toArray, List.getElem?_cons_succ, List.getElem?_cons_zero, Option.getD_some]; go_big_quiet_op; go_big_quiet_on
     refine wpTree_take rfl rfl ?_; intro K hK; simp only [Array.getD_eq_getD_getElem?, List.getElem?_toArray, List.getElem?_cons_succ, List.getElem?_cons_zero, Option.getD_some]; go_big_quiet_op; go_big_quiet_on
     refine wpTree_alt (wpTree_br rfl rfl ?_ wpTree_stop)
     have hS1 := hS0.below (show Below _ _ (w28) by (repeat first|exact J0|assumption|(apply J1;assumption)|apply J2|apply J3|apply J4))
     intro K hK
     simp only [Array.getD_eq_getD_getElem?, List.getElem?_toArray, List.getElem?_cons_succ, List.getElem?_cons_zero, Option.getD_some]
     refine op_store_blk hS1 _ _ _ rfl rfl rfl rfl (by kernel_rfl) (by kernel_rfl) ?_
     intro w7 hS7 hc7
     have hg7 : w20.heap.size ≤ (w20.drew).heap.size := Below.size (show Below w20.heap.size w20 (w20.drew) by (repeat first|exact J0|assumption|(apply J1;assumption)|apply J2|apply J3|apply J4))
     have hb7 : Below w20.heap.size w20 w7 := chg_bl (by (repeat first|exact J0|assumption|(apply J1;assumption)|apply J2|apply J3|apply J4)) hc7 hg7
     refine hK _ _ (chg_bl (by (repeat first|exact J0|assumption|(apply J1;assumption)|apply J2|apply J3|apply J4)) hc7 (by first | exact Nat.le_refl _ | exact hg7)) ?_
     clear hK K
     refine wpTree_fin ?_
     go_wp2_with fail
     go_meet
     case rel => exact ⟨((w20.drew).heap.size), A9x, c9x, A99, c99, rfl, rfl, hS7, (hv1.below (by (repeat first|exact J0|assumption|(apply J1;assumption)|apply J2|apply J3|apply J4))).pastC hS1 (by decide) hc7, (hv2.below (by (repeat first|exact J0|assumption|(apply J1;assumption)|apply J2|apply J3|apply J4))).pastC hS1 (by decide) hc7, hb7⟩
   case rest =>
    obtain ⟨g16, A9x, c9x, A99, c99, rfl, rfl, hS16, hv1, hv2, hbd⟩ := hcut
    obtain ⟨w30, rfl⟩ : ∃ x, x = wc := ⟨_, rfl⟩
    have hZ30 := hZ20.below hbd
    have hS14c := hS14.below hbd
    have hW30 := bl_then hbd hW20
    have hu1c := hu1.below hbd
    have hu2c := hu2.below hbd
    clear hZ20 hS14 hu1 hu2 fZ20 fP20 hP20 hrun1 hrun2 hr21 hr22 p8 p9
    by_cases heb : EB = 0
    ·have tEB : (EB != 0) = false := by simp [heb]
     have hqb := HQB.out
     rw [if_pos heb] at hqb
     subst hqb
     obtain ⟨e1, e2, e3⟩ := hH1.out.1 heb
     subst e1 e2 e3
     subst heb
     clear HQB hH1
     simp only at hS16 hv1 hv2
     have f14 := hS14c.facts
     have f16 := hS16.facts
     go_wp2_with (refine wpList_store_blk hZ30 rfl _ _ _ rfl rfl rfl (by rfl) (by kernel_rfl) (by kernel_rfl) ?_; intro w12 hZ12 hc12; have f12 := hZ12.facts)
     refine bodyPost_ret (v := .tuple #[.agg #[.string ⟨p.1.toArray⟩, .int .i64 p.2.1, .slice A7 (plnL (SL.take i)).length c7, .slice A77 (plnL (SR.take k)).length c77, .string ⟨p.1.toArray⟩, .int .i64 ((xk - xi).tdiv 2), .slice A9x (plnL (SL.drop i)).length c9x, .slice A99 (plnL (SR.drop k)).length c99], .int .i64 0]) (by simp [results, Tryz.results12, go_sem, f12]) rfl ?_
     exact ⟨_, _, _, _, rfl, (hu1c.chg hc12 (by simp; omega)).base_mono (by omega), (hu2c.chg hc12 (by simp; omega)).base_mono (by omega), (hv1.chg hc12 (by simp; omega)).base_mono (by omega), (hv2.chg hc12 (by simp; omega)).base_mono (by omega), chg_bl hW30 hc12 (by omega)⟩
    ·have tEB : (EB != 0) = true := by simpa using heb
     obtain ⟨e1, e2, e3⟩ := hH1.out.2 heb
     subst e1 e2 e3
     clear HQB hH1 heb
     go_wp2_with (refine wpList_store_blk hZ30 rfl _ _ _ rfl rfl rfl (by rfl) (by kernel_rfl) (by kernel_rfl) ?_; intro w12 hZ12 hc12; have f12 := hZ12.facts)
     refine bodyPost_ret (v := .tuple #[.agg #[.string ⟨#[]⟩, .int .i64 0, .slice none 0 0, .slice none 0 0, .string ⟨#[]⟩, .int .i64 0, .slice none 0 0, .slice none 0 0], .int .i64 FE]) (by simp [results, Tryz.results12, go_sem, f12]) rfl ?_
     exact ⟨_, _, _, _, rfl, Own.nil_, Own.nil_, Own.nil_, Own.nil_, chg_bl hW30 hc12 (by omega)⟩
  ·have tEA : (EA != 0) = true := by simpa using hea
   have e1 : F1 = panZ := by rw [← HF1.out, if_neg (fun h => hea h.1)]
   have e2 : F2 = panZ := by rw [← HF2.out, if_neg (fun h => hea h.1)]
   have e3 : FE = EA := by rw [← HFE.out]; show (if EA = 0 then (if EB = 0 then 0 else EB) else EA) = EA; rw [if_neg hea]
   clear HF1 HF2 HFE
   subst e1 e2 e3
   clear HQA hea
   go_wp2_with (refine wpList_store_blk hZ20 rfl _ _ _ rfl rfl rfl (by rfl) (by kernel_rfl) (by kernel_rfl) ?_; intro w12 hZ12 hc12; have f12 := hZ12.facts)
   refine bodyPost_ret (v := .tuple #[.agg #[.string ⟨#[]⟩, .int .i64 0, .slice none 0 0, .slice none 0 0, .string ⟨#[]⟩, .int .i64 0, .slice none 0 0, .slice none 0 0], .int .i64 FE]) (by simp [results, Tryz.results12, go_sem, f12]) rfl ?_
   exact ⟨_, _, _, _, rfl, Own.nil_, Own.nil_, Own.nil_, Own.nil_, chg_bl hW20 hc12 (by omega)⟩
end Go.Proofs.YtkkefahobjlagaaGreatDoor
namespace Go.Proofs.YtkkefahobjlagaaGreatDoor
open Go.RowKit Go.ChangeMaps
set_option maxHeartbeats 4000000
set_option maxRecDepth 100000
theorem step_shift (r : Bool) (k : Knot) (s : Stp) (dx dy : Int) : stepK r (k.1 + dx, k.2 + dy) s = ((stepK r k s).1 + dx, (stepK r k s).2 + dy) := by
 unfold stepK aft
 split
 ·refine Prod.ext ?_ ?_ <;> simp only <;> omega
 ·split
  ·refine Prod.ext ?_ ?_ <;> simp only <;> omega
  ·refine Prod.ext ?_ ?_ <;> simp only <;> omega
theorem sid_shift (r : Bool) (dx dy : Int) : ∀ (l : List Stp) (k : Knot), sidS r (k.1 + dx, k.2 + dy) l = (sidS r k l).map fun x => (x.1 + dx, x.2 + dx)
 | [], _ => rfl
 | s :: t, k => by
  rw [sidS, sidS, step_shift, List.map_append, sid_shift r dx dy t (stepK r k s)]
  congr 1
  split
  ·rfl
  ·split
   ·rfl
   ·rfl
theorem SameL.sid {right : Bool} : ∀ {a b : List Stp} {k : Knot}, SameL a b → sidS right k a = sidS right k b
 | [], [], _, _ => rfl
 | [], _ :: _, _, h => by simp [SameL] at h
 | _ :: _, [], _, h => by simp [SameL] at h
 | x :: a, y :: b, k, h => by
  have h0 := h.2 0 (by simp) (by simp)
  simp only [List.getElem_cons_zero] at h0
  have hs : x.1 = y.1 := h0.1
  rw [sidS, sidS, step_same h0, hs]
  congr 1
  refine SameL.sid ⟨by simpa using h.1, fun i h1 h2 => ?_⟩
  have := h.2 (i + 1) (by simpa using h1) (by simpa using h2)
  simpa using this
theorem SameL.rise : ∀ {a b : List Stp}, SameL a b → riseL a = riseL b
 | [], [], _ => rfl
 | [], _ :: _, h => by simp [SameL] at h
 | _ :: _, [], h => by simp [SameL] at h
 | x :: a, y :: b, h => by
  have h0 := h.2 0 (by simp) (by simp)
  simp only [List.getElem_cons_zero] at h0
  have hs : x.1 = y.1 := h0.1
  rw [riseL_cons, riseL_cons, hs, SameL.rise (a := a) (b := b) ⟨by simpa using h.1, fun i h1 h2 => by
   have := h.2 (i + 1) (by simpa using h1) (by simpa using h2)
   simpa using this⟩]
theorem splitG_hit {y : Int} : ∀ (l : List Knot) (n i : Nat), splitG y l n = i → ∃ h : i - n < l.length, n ≤ i ∧ l[i - n].2 = y
 | [], n, i, h => by
  unfold splitG at h
  omega
 | k :: l, n, i, h => by
  unfold splitG at h
  split at h
  ·rename_i h1
   have e : i = n := by omega
   subst e
   refine ⟨by simp, Nat.le_refl _, ?_⟩
   simpa using h1
  ·obtain ⟨h1, h2, h3⟩ := splitG_hit l (n + 1) i h
   refine ⟨by simp; omega, by omega, ?_⟩
   have e : i - n = (i - (n + 1)) + 1 := by omega
   simp only [e, List.getElem_cons_succ]
   exact h3
theorem splitI_hit {l : List Knot} {y : Int} {i : Nat} (h : splitI l y = i) : ∃ h : i < l.length, l[i].2 = y := by
 obtain ⟨h1, _, h2⟩ := splitG_hit l 0 i h
 simp only [Nat.sub_zero] at h1 h2
 exact ⟨h1, h2⟩
structure CutOk (p : Pan) (y : Int) (i k : Nat) : Prop where
 ok : PanOk p
 a : PanOk (cutA p i k)
 b : PanOk (cutB p i k)
 i_ : splitI (outP p false) y = i
 k_ : splitI (outP p true) y = k
def cutX (p : Pan) (i : Nat) : Int := ((outP p false).getD i (0, 0)).1
def cutN (i k : Nat) (r : Bool) : Nat := if r then k else i
theorem cutA_side (p : Pan) (i k : Nat) (r : Bool) : SameL (stpL (sideP (cutA p i k) r)) ((stpL (sideP p r)).take (cutN i k r)) := by
 cases r
 ·exact pln_same _
 ·exact pln_same _
theorem cutB_side (p : Pan) (i k : Nat) (r : Bool) : SameL (stpL (sideP (cutB p i k) r)) ((stpL (sideP p r)).drop (cutN i k r)) := by
 cases r
 ·exact pln_same _
 ·exact pln_same _
theorem CutOk.pos {p : Pan} {y : Int} {i k : Nat} (h : CutOk p y i k) (r : Bool) : posK r (fromP p r) ((stpL (sideP p r)).take (cutN i k r)) = (if r then cutX p i + cutD p i k else cutX p i, y) := by
 obtain ⟨i1, i2⟩ := splitI_hit h.i_
 obtain ⟨k1, k2⟩ := splitI_hit h.k_
 cases r
 ·have g : (outP p false)[i] = posK false (fromP p false) ((stpL (sideP p false)).take i) := outK_get false _ _ i i1
  have e : cutX p i = (outP p false)[i].1 := by unfold cutX; rw [List.getD_eq_getElem?_getD, List.getElem?_eq_getElem i1, Option.getD_some]
  show posK false (fromP p false) ((stpL (sideP p false)).take i) = (cutX p i, y)
  rw [← g, e, ← i2]
 ·have g : (outP p true)[k] = posK true (fromP p true) ((stpL (sideP p true)).take k) := outK_get true _ _ k k1
  have e : cutX p i + cutD p i k = (outP p true)[k].1 := by
   unfold cutD cutX
   rw [List.getD_eq_getElem?_getD (l := outP p true), List.getElem?_eq_getElem k1, Option.getD_some]
   omega
  show posK true (fromP p true) ((stpL (sideP p true)).take k) = (cutX p i + cutD p i k, y)
  rw [← g, e, ← k2]
theorem CutOk.wid {p : Pan} {y : Int} {i k : Nat} (h : CutOk p y i k) : 2 * (cutB p i k).2.1 = cutD p i k := by
 have h1 := pos_par false ((stpL (sideP p false)).take (cutN i k false)) (fromP p false)
 have h2 := pos_par true ((stpL (sideP p true)).take (cutN i k true)) (fromP p true)
 rw [h.pos false] at h1
 rw [h.pos true] at h2
 have h1 : (cutX p i + y - (0 + 0)) % 2 = 0 := h1
 have h2 : (cutX p i + cutD p i k + y - (2 * p.2.1 + 0)) % 2 = 0 := h2
 show 2 * (cutD p i k).tdiv 2 = _
 obtain ⟨m, hm⟩ : ∃ m, cutD p i k = 2 * m := ⟨cutD p i k / 2, by omega⟩
 rw [hm, Int.mul_tdiv_cancel_left m (by decide)]
theorem CutOk.from_ {p : Pan} {y : Int} {i k : Nat} (h : CutOk p y i k) (r : Bool) : posK r (fromP p r) ((stpL (sideP p r)).take (cutN i k r)) = ((fromP (cutB p i k) r).1 + cutX p i, (fromP (cutB p i k) r).2 + y) := by
 rw [h.pos r]
 have hw := h.wid
 cases r
 ·show (cutX p i, y) = (0 + cutX p i, 0 + y)
  refine Prod.ext ?_ ?_ <;> simp only <;> omega
 ·show (cutX p i + cutD p i k, y) = (2 * (cutB p i k).2.1 + cutX p i, 0 + y)
  refine Prod.ext ?_ ?_ <;> simp only <;> omega
theorem CutOk.topA {p : Pan} {y : Int} {i k : Nat} (h : CutOk p y i k) : topX (cutA p i k) false = cutX p i := by
 have h1 := h.pos false
 have h2 : posK false (fromP (cutA p i k) false) (stpL (sideP (cutA p i k) false)) = posK false (fromP p false) ((stpL (sideP p false)).take (cutN i k false)) := SameL.pos (cutA_side p i k false)
 unfold topX
 rw [h2, h1]
 rfl
theorem CutOk.highA {p : Pan} {y : Int} {i k : Nat} (h : CutOk p y i k) : heightP (cutA p i k) = y := by
 have h1 := out_top' (cutA p i k) false h.a
 have h2 : posK false (fromP (cutA p i k) false) (stpL (sideP (cutA p i k) false)) = posK false (fromP p false) ((stpL (sideP p false)).take (cutN i k false)) := SameL.pos (cutA_side p i k false)
 rw [h2, h.pos false] at h1
 exact h1.symm
theorem cut_high {p : Pan} {i k : Nat} : heightP (cutA p i k) + heightP (cutB p i k) = heightP p := by
 have h1 : riseL (stpL (cutA p i k).2.2.1) = riseL ((stpL p.2.2.1).take i) := SameL.rise (cutA_side p i k false)
 have h2 : riseL (stpL (cutB p i k).2.2.1) = riseL ((stpL p.2.2.1).drop i) := SameL.rise (cutB_side p i k false)
 show riseL (stpL (cutA p i k).2.2.1) + riseL (stpL (cutB p i k).2.2.1) = riseL (stpL p.2.2.1)
 rw [h1, h2, ← riseL_app, List.take_append_drop]
theorem CutOk.sid {p : Pan} {y : Int} {i k : Nat} (h : CutOk p y i k) (r : Bool) : sidP p r = sidP (cutA p i k) r ++ (sidP (cutB p i k) r).map fun x => (x.1 + cutX p i, x.2 + cutX p i) := by
 have e1 : sidP (cutA p i k) r = sidS r (fromP p r) ((stpL (sideP p r)).take (cutN i k r)) := by
  unfold sidP
  rw [SameL.sid (cutA_side p i k r)]
  cases r <;> rfl
 have e2 : sidP (cutB p i k) r = sidS r (fromP (cutB p i k) r) ((stpL (sideP p r)).drop (cutN i k r)) := by
  unfold sidP
  rw [SameL.sid (cutB_side p i k r)]
 rw [e1, e2, ← sid_shift r (cutX p i) y, ← h.from_ r, ← sidS_app, List.take_append_drop]
 rfl
def shS (d : Int) (s : Strp) : Strp := (s.1 + d, s.2.1 + d, s.2.2.1 + d, s.2.2.2 + d)
theorem CutOk.strips {p : Pan} {y : Int} {i k : Nat} (h : CutOk p y i k) : strips p = strips (cutA p i k) ++ (strips (cutB p i k)).map (shS (cutX p i)) := by
 obtain ⟨e1, e2⟩ := sid_lens h.ok
 obtain ⟨a1, a2⟩ := sid_lens h.a
 obtain ⟨b1, b2⟩ := sid_lens h.b
 have s1 := h.sid false
 have s2 := h.sid true
 have hl : (Go.Proofs.YtkkefahobjlagaaGreatDoor.strips p).length = (Go.Proofs.YtkkefahobjlagaaGreatDoor.strips (cutA p i k)).length + (Go.Proofs.YtkkefahobjlagaaGreatDoor.strips (cutB p i k)).length := by
  rw [← e1, ← a1, ← b1, s1]
  simp
 refine List.ext_getElem (by simp [hl]) fun j q1 q2 => ?_
 rw [strips_get j q1 (by omega) (by omega)]
 by_cases hj : j < (Go.Proofs.YtkkefahobjlagaaGreatDoor.strips (cutA p i k)).length
 ·rw [List.getElem_append_left hj, strips_get j hj (by omega) (by omega)]
  simp only [s1, s2]
  rw [List.getElem_append_left (by omega), List.getElem_append_left (by omega)]
 ·obtain ⟨n, rfl⟩ : ∃ n, j = (Go.Proofs.YtkkefahobjlagaaGreatDoor.strips (cutA p i k)).length + n := ⟨j - (Go.Proofs.YtkkefahobjlagaaGreatDoor.strips (cutA p i k)).length, by omega⟩
  have hn : n < (Go.Proofs.YtkkefahobjlagaaGreatDoor.strips (cutB p i k)).length := by omega
  rw [List.getElem_append_right (by omega)]
  simp only [s1, s2, List.getElem_map, Nat.add_sub_cancel_left]
  rw [List.getElem_append_right (by omega), List.getElem_append_right (by omega), strips_get n hn (by omega) (by omega)]
  have d1 : (Go.Proofs.YtkkefahobjlagaaGreatDoor.strips (cutA p i k)).length + n - (sidP (cutA p i k) false).length = n := by omega
  have d2 : (Go.Proofs.YtkkefahobjlagaaGreatDoor.strips (cutA p i k)).length + n - (sidP (cutA p i k) true).length = n := by omega
  simp only [d1, d2, List.getElem_map]
  rfl
theorem CutOk.area {p : Pan} {y : Int} {i k : Nat} (h : CutOk p y i k) : areaS (Go.Proofs.YtkkefahobjlagaaGreatDoor.strips (cutA p i k)) + areaS (Go.Proofs.YtkkefahobjlagaaGreatDoor.strips (cutB p i k)) = areaS (Go.Proofs.YtkkefahobjlagaaGreatDoor.strips p) := by
 have e : ∀ l : List Strp, areaS (l.map (shS (cutX p i))) = areaS l := by
  intro l
  unfold areaS
  rw [List.map_map]
  congr 1
  refine List.map_congr_left fun s _ => ?_
  unfold shS
  simp only [Function.comp]
  omega
 rw [h.strips, ← e (Go.Proofs.YtkkefahobjlagaaGreatDoor.strips (cutB p i k))]
 unfold areaS
 rw [List.map_append, List.sum_append]
theorem CutOk.even {p : Pan} {y : Int} {i k : Nat} (h : CutOk p y i k) : (cutX p i + y) % 2 = 0 := by
 have h1 := pos_par false ((stpL (sideP p false)).take (cutN i k false)) (fromP p false)
 rw [h.pos false] at h1
 have h1 : (cutX p i + y - (0 + 0)) % 2 = 0 := h1
 omega
theorem netL_at {p : Pan} {b : Bar} (hb : b ∈ netL p) : ∃ (n : Nat) (hn : n < (strips p).length), b.2.1 = (n : Int) ∧ (strips p)[n].1 ≤ b.1 ∧ b.1 ≤ (strips p)[n].2.1 ∧ (b.2.2 = -1 ∨ b.2.2 = 1) ∧ (b.1 + (n : Int)) % 2 = 0 ∧ (strips p)[n].2.2.1 ≤ b.1 + b.2.2 ∧ b.1 + b.2.2 ≤ (strips p)[n].2.2.2 := by
 obtain ⟨n, hn, hm⟩ := netN_mem _ hb
 have e : (strips p).getD n (0, 0, 0, 0) = (strips p)[n] := by
  rw [List.getD_eq_getElem?_getD, List.getElem?_eq_getElem hn, Option.getD_some]
 rw [e] at hm
 exact ⟨n, hn, barsS_mem hm⟩
theorem netL_put {p : Pan} {x c : Int} {n : Nat} (hn : n < (strips p).length) (h1 : (strips p)[n].1 ≤ x) (h2 : x ≤ (strips p)[n].2.1) (hc : c = -1 ∨ c = 1) (hp : (x + (n : Int)) % 2 = 0) (h3 : (strips p)[n].2.2.1 ≤ x + c) (h4 : x + c ≤ (strips p)[n].2.2.2) : (x, (n : Int), c) ∈ netL p := by
 refine netN_in (k := n) ?_ _ hn
 rw [List.getD_eq_getElem?_getD, List.getElem?_eq_getElem hn, Option.getD_some]
 exact barsS_put h1 h2 hp hc h3 h4
theorem CutOk.mem {p : Pan} {y : Int} {i k : Nat} (h : CutOk p y i k) (b : Bar) : b ∈ netL p ↔ b ∈ netL (cutA p i k) ∨ b ∈ (netL (cutB p i k)).map (shB (cutX p i, y)) := by
 have hs := h.strips
 have he := h.even
 have hl : ((Go.Proofs.YtkkefahobjlagaaGreatDoor.strips (cutA p i k)).length : Int) = y := by
  have := h.a.high
  rw [strips_len, h.highA] at *
  omega
 obtain ⟨n0, hn0⟩ : ∃ n, (Go.Proofs.YtkkefahobjlagaaGreatDoor.strips (cutA p i k)).length = n := ⟨_, rfl⟩
 constructor
 ·intro hb
  obtain ⟨n, hn, g1, g2, g3, g4, g5, g6, g7⟩ := netL_at hb
  obtain ⟨x, z, c⟩ := b
  simp only at g1 g2 g3 g4 g5 g6 g7
  subst g1
  simp only [hs] at g2 g3 g6 g7
  by_cases hj : n < (Go.Proofs.YtkkefahobjlagaaGreatDoor.strips (cutA p i k)).length
  ·left
   rw [List.getElem_append_left hj] at g2 g3 g6 g7
   exact netL_put hj g2 g3 g4 g5 g6 g7
  ·right
   rw [List.getElem_append_right (by omega), List.getElem_map] at g2 g3 g6 g7
   have hl2 : (Go.Proofs.YtkkefahobjlagaaGreatDoor.strips p).length = n0 + (Go.Proofs.YtkkefahobjlagaaGreatDoor.strips (cutB p i k)).length := by rw [hs]; simp [hn0]
   obtain ⟨m, hm⟩ : ∃ m, n - (Go.Proofs.YtkkefahobjlagaaGreatDoor.strips (cutA p i k)).length = m := ⟨_, rfl⟩
   have hmb : m < (Go.Proofs.YtkkefahobjlagaaGreatDoor.strips (cutB p i k)).length := by omega
   simp only [hm] at g2 g3 g6 g7
   unfold shS at g2 g3 g6 g7
   simp only at g2 g3 g6 g7
   rw [List.mem_map]
   refine ⟨(x - cutX p i, (m : Int), c), netL_put hmb (by omega) (by omega) g4 (by omega) (by omega) (by omega), ?_⟩
   unfold shB
   simp only [Prod.mk.injEq]
   exact ⟨by omega, by omega, trivial⟩
 ·rintro (hb | hb)
  ·obtain ⟨n, hn, g1, g2, g3, g4, g5, g6, g7⟩ := netL_at hb
   obtain ⟨x, z, c⟩ := b
   simp only at g1 g2 g3 g4 g5 g6 g7
   subst g1
   have e : ∀ q : n < (Go.Proofs.YtkkefahobjlagaaGreatDoor.strips p).length, (Go.Proofs.YtkkefahobjlagaaGreatDoor.strips p)[n] = (Go.Proofs.YtkkefahobjlagaaGreatDoor.strips (cutA p i k))[n] := fun q => by
    simp only [hs]
    rw [List.getElem_append_left hn]
   have q : n < (Go.Proofs.YtkkefahobjlagaaGreatDoor.strips p).length := by rw [hs]; simp; omega
   exact netL_put q (by rw [e q]; exact g2) (by rw [e q]; exact g3) g4 g5 (by rw [e q]; exact g6) (by rw [e q]; exact g7)
  ·obtain ⟨d, hd, rfl⟩ := List.mem_map.1 hb
   obtain ⟨n, hn, g1, g2, g3, g4, g5, g6, g7⟩ := netL_at hd
   obtain ⟨x, z, c⟩ := d
   simp only at g1 g2 g3 g4 g5 g6 g7
   subst g1
   have q : n0 + n < (Go.Proofs.YtkkefahobjlagaaGreatDoor.strips p).length := by rw [hs]; simp; omega
   have e : (Go.Proofs.YtkkefahobjlagaaGreatDoor.strips p)[n0 + n] = shS (cutX p i) (Go.Proofs.YtkkefahobjlagaaGreatDoor.strips (cutB p i k))[n] := by
    simp only [hs]
    rw [List.getElem_append_right (by omega), List.getElem_map]
    have : n0 + n - (Go.Proofs.YtkkefahobjlagaaGreatDoor.strips (cutA p i k)).length = n := by omega
    simp only [this]
   unfold shB
   simp only
   rw [show (n : Int) + y = ((n0 + n : Nat) : Int) by omega]
   refine netL_put q ?_ ?_ g4 ?_ ?_ ?_
   all_goals first
    | omega
    | (rw [e]; unfold shS; simp only; omega)
theorem CutOk.net {p : Pan} {y : Int} {i k : Nat} (h : CutOk p y i k) : netL p = netL (cutA p i k) ++ (netL (cutB p i k)).map (shB (cutX p i, y)) := by
 refine sortedB_eq (netN_asc _ _) ?_ fun x => by rw [h.mem x, List.mem_append]
 rw [List.pairwise_append]
 refine ⟨netN_asc _ _, shift_sorted (netN_asc _ _) _, fun a ha b hb => ?_⟩
 have hl : ((Go.Proofs.YtkkefahobjlagaaGreatDoor.strips (cutA p i k)).length : Int) = y := by
  have := h.a.high
  rw [strips_len, h.highA] at *
  omega
 obtain ⟨n, hn, g1, _⟩ := netL_at ha
 obtain ⟨d, hd, rfl⟩ := List.mem_map.1 hb
 obtain ⟨m, hm, g2, _⟩ := netL_at hd
 rw [bltP_iff]
 left
 show a.2.1 < d.2.1 + y
 omega
theorem cut_stack (p : Pan) (i k : Nat) (r : Bool) : SameL (stpL (sideP (stkQ (cutA p i k) (cutB p i k)) r)) (stpL (sideP p r)) := by
 have e : stpL (sideP (stkQ (cutA p i k) (cutB p i k)) r) = stpL (sideP (cutA p i k) r) ++ stpL (sideP (cutB p i k) r) := by
  cases r
  ·exact stpL_app _ _
  ·exact stpL_app _ _
 rw [e, ← List.take_append_drop (cutN i k r) (stpL (sideP p r))]
 have h1 := cutA_side p i k r
 have h2 := cutB_side p i k r
 refine ⟨by rw [List.length_append, List.length_append, h1.1, h2.1], fun j q1 q2 => ?_⟩
 by_cases hj : j < (stpL (sideP (cutA p i k) r)).length
 ·rw [List.getElem_append_left hj, List.getElem_append_left (by rw [← h1.1]; exact hj)]
  exact h1.2 j hj _
 ·have hl := h1.1
  rw [List.getElem_append_right (by omega), List.getElem_append_right (by omega)]
  have := h2.2 (j - (stpL (sideP (cutA p i k) r)).length) (by rw [List.length_append] at q1; omega) (by rw [List.length_append] at q2; omega)
  simp only [hl] at this ⊢
  exact this
end Go.Proofs.YtkkefahobjlagaaGreatDoor
