/- What awake looks at, plain. Conditions: none. -/
import Derived.Test.YtkmjcoofkgpanaaGreatDoorB19
import Derived.Test.YtkmjcoofkgpanaaGreatDoorB13
import Derived.Test.YtkmjcoofkgpanaaGreatDoorB15
import Derived.Test.YtkmjcoofkgpanaaGreatDoorB14
import Derived.Test.YtkmjcoofkgpanaaGreatDoorB11
import Derived.Test.YtkmjcoofkgpanaaGreatDoorB12
import Derived.Test.YtkmjcoofkgpanaaGreatDoorB09
namespace Go.Proofs.YtkmjcoofkgpanaaGreatDoor
open Go.RowKit Go.ChangeMaps
set_option maxHeartbeats 4000000
set_option maxRecDepth 100000

/-! ## what awake looks at -/
def smB : List Bar := [(0, 0, 1), (2, 0, -1), (2, 0, 1), (4, 0, -1), (1, 1, -1), (1, 1, 1), (3, 1, -1), (3, 1, 1)]
def smS : Str := [48, 58, 32, 48, 47, 32, 50, 92, 32, 50, 47, 32, 52, 92, 10, 49, 58, 32, 49, 92, 32, 49, 47, 32, 51, 92, 32, 51, 47, 10]
def bigB : List Bar := shN 0 0 2 4
def minB : List Bar := putL minusK bigB (aroundL (2, 2))
theorem p1 : sheetE 0 0 2 2 = 0 := by kernel_rfl
theorem p2 : sheetL 0 0 2 2 = smB := by kernel_rfl
theorem p3 : netE smB = 0 := by kernel_rfl
theorem p4 : (holeK smB).length = 8 := by kernel_rfl
theorem p5 : legsR smB = #[.int .i64 0, .int .i64 4, .int .i64 2, .int .i64 0, .int .i64 2] := by kernel_rfl
theorem p6 : meshL smB smB = [(2, 1)] := by kernel_rfl
theorem p7 : printE smB = 0 := by kernel_rfl
theorem p8 : printL smB = smS := by kernel_rfl
theorem prt_one {l : List Bar} {b0 : Bar} (h0 : l[0]? = some b0) (hc : ∀ b ∈ l, b ∈ colP l [] (l.length + 1) 0 [b0]) : ∀ k, k < l.length → prtO l (k + 1) = [srtB (colP l [] (l.length + 1) 0 [b0])]
  | 0, _ => by
    rw [prtO, h0]
    simp [prtO]
  | k + 1, hk => by
    have ih := prt_one h0 hc k (by omega)
    rw [prtO, List.getElem?_eq_getElem hk, ih]
    have hm : l[k + 1] ∈ [srtB (colP l [] (l.length + 1) 0 [b0])].flatten := by
      simp only [List.flatten_cons, List.flatten_nil, List.append_nil]
      exact (srtB_mem _ _).2 (hc _ (List.getElem_mem hk))
    simp only [if_pos hm]
theorem p6a : (partsL smB).length = 1 := by
  unfold partsL
  rw [show smB.length = 7 + 1 from rfl, prt_one (b0 := (0, 0, 1)) rfl (by decide +kernel) 7 (by decide)]
  rfl
theorem p10 : cntA smB = #[.int .i64 8, .int .i64 8, .int .i64 1, .int .i64 1, .int .i64 0] := by
  unfold cntA
  rw [if_pos p3, p4, p6, p6a]
  rfl
theorem p11 : sheetE 0 0 2 4 = 0 := by kernel_rfl
theorem p12 : knotE 2 2 = 0 := by kernel_rfl
theorem p13 : putE minusK bigB (aroundL (2, 2)) = 0 := by kernel_rfl
theorem p14 : netE minB = 0 := by kernel_rfl
theorem p14a : (holeK minB).length = 12 := by kernel_rfl
theorem p14c : (meshL minB minB).length = 0 := by kernel_rfl
theorem p14d : minB.length = 12 := by kernel_rfl
theorem p14b : (partsL minB).length = 1 := by
  unfold partsL
  rw [p14d, show 12 = 11 + 1 from rfl, prt_one (b0 := (0, 0, 1)) (by kernel_rfl) (by decide +kernel) 11 (by rw [p14d]; decide)]
  rfl
theorem p15 : cntA minB = #[.int .i64 12, .int .i64 12, .int .i64 0, .int .i64 1, .int .i64 1] := by
  unfold cntA
  rw [if_pos p14, p14a, p14b, p14c, p14d]
  rfl
theorem p16 : netE [(1, 1, -1)] = 0 := by kernel_rfl
theorem p17 : turnN (qN 1) [(1, 1, -1)] = [(-2, 0, 1)] := by kernel_rfl
theorem p18 : netE [(2, 0, 1)] = 0 := by kernel_rfl
theorem p19 : mirN [(2, 0, 1)] = [(-2, 0, -1)] := by kernel_rfl
theorem p20 : canE [(5, 3, 1)] = 0 := by kernel_rfl
theorem p21 : canL [(5, 3, 1)] = [(0, 0, -1)] := by kernel_rfl
theorem p22 : netE [(0, 0, 1), (4, 0, 1)] = 0 := by kernel_rfl
theorem p23 : (partsL [(0, 0, 1), (4, 0, 1)]).length = 2 := by kernel_rfl
theorem p24 : drawE 1 3 = 0 := by kernel_rfl
theorem p25 : drawR 1 3 = [0, 2, 1] := by kernel_rfl
theorem p9 : parseR smS = (smB, 0, 0) := by kernel_rfl
end Go.Proofs.YtkmjcoofkgpanaaGreatDoor

/- The program answers the document's examples: awake, walked. Conditions: the variables are laid. -/
namespace Go.Proofs.YtkmjcoofkgpanaaGreatDoor
open Go.RowKit Go.ChangeMaps
set_option maxHeartbeats 4000000
set_option maxRecDepth 100000

theorem own_new (W : World) {base : Nat} (hb : base ≤ W.heap.size) (l : List Bar) (hl : l.length ≤ 1000) (cs : Array Value) (hc : cs = (l.flatMap bc).toArray) (n : Nat) (hn : n = l.length) : OwB base (W.alloc (.cells cs 60)) (.slice (some ⟨W.heap.size, 0, none⟩) n n) l := by
  subst hc hn
  have hs : ∀ l : List Bar, (l.flatMap bc).length = l.length * 3 := fun l => by
    induction l with
    | nil => rfl
    | cons a r ih => simp [bc, ih]; omega
  exact ⟨hs l, .inr ⟨W.heap.size, l.length, _, rfl, hb, heap_alloc_new W _, Nat.le_refl _, by simp [maxLen]; omega, by simpa using hs l, by rw [← hs l]; exact List.take_length⟩⟩
theorem own_newI (W : World) {base : Nat} (hb : base ≤ W.heap.size) (l : List Int) (hl : l.length ≤ 1000) (cs : Array Value) (hc : cs = (l.flatMap ic).toArray) (n : Nat) (hn : n = l.length) : OwI base (W.alloc (.cells cs 3)) (.slice (some ⟨W.heap.size, 0, none⟩) n n) l := by
  subst hc hn
  have hs : ∀ l : List Int, (l.flatMap ic).length = l.length * 1 := fun l => by
    induction l with
    | nil => rfl
    | cons a r ih => simp [ic, ih]
  exact ⟨hs l, .inr ⟨W.heap.size, l.length, _, rfl, hb, heap_alloc_new W _, Nat.le_refl _, by simp [maxLen]; omega, by simpa using hs l, by rw [← hs l]; exact List.take_length⟩⟩
theorem small_any (w : World) : Calls Tryz.prog 81 #[] w (RB w smB) := by
  go_enter Tryz.func81, Tryz.ntmps81
  go_wp2
  go_ret
  exact ⟨_, rfl, own_new w (Nat.le_refl _) smB (by decide) _ rfl 8 rfl, by (repeat (first | exact bl_refl | assumption | (apply bl_then; assumption) | refine bl_alloc ?_ _ | refine bl_drew ?_ | refine bl_drewN ?_ _))⟩
theorem aw_sheet (w : World) : Calls Tryz.prog 18 #[.agg #[.int .i64 0, .int .i64 0], .int .i64 2, .int .i64 2] w (RBE w smB 0) := by
  have h := apiSheet_any 0 0 2 2 w
  rwa [p1, p2] at h
theorem aw_big (w : World) : Calls Tryz.prog 18 #[.agg #[.int .i64 0, .int .i64 0], .int .i64 2, .int .i64 4] w (RBE w bigB 0) := by
  have h := apiSheet_any 0 0 2 4 w
  rwa [p11, show sheetL 0 0 2 4 = bigB by unfold sheetL; rw [if_pos p11]; rfl] at h
theorem aw_knots {v : Value} (w : World) (h : SlB w v smB) : Calls Tryz.prog 33 #[v] w (RKE w (holeK smB) 0) := by
  have := apiKnots_any smB w h
  rwa [p3, show onlyOk 0 (holeK smB) = holeK smB from rfl] at this
theorem aw_legs {v : Value} (w : World) (h : SlB w v smB) : Calls Tryz.prog 32 #[v] w (RLE w #[.int .i64 0, .int .i64 4, .int .i64 2, .int .i64 0, .int .i64 2] 0) := by
  have := apiLegs_any smB w h
  rwa [p3, p5] at this
theorem aw_meshes {v : Value} (w : World) (h : SlB w v smB) : Calls Tryz.prog 41 #[v] w (fun e w' => ∃ u, e = .returned (.tuple #[u, .int .i64 0]) ∧ OwMN w.heap.size w' u [(2, 1)] ∧ Below w.heap.size w w') := by
  have := apiMeshes_any smB w h
  rwa [p3, show onlyOk 0 (meshL smB smB) = meshL smB smB from rfl, p6] at this
theorem aw_print {v : Value} (w : World) (h : SlB w v smB) (hL : Lay w) : Calls Tryz.prog 38 #[v] w (RV w (.tuple #[sV smS, .int .i64 0])) := by
  have := apiPrint_any smB w h hL
  rwa [show printS smB = smS by unfold printS; rw [if_pos p7, p8], p7] at this
theorem aw_parse (w : World) (hL : Lay w) : Calls Tryz.prog 39 #[sV smS] w (RPE w (smB, 0, 0)) := by
  have := apiParse_any smS w hL
  rwa [p9] at this
theorem aw_count {v : Value} (w : World) (h : SlB w v smB) : Calls Tryz.prog 24 #[v] w (RLE w #[.int .i64 8, .int .i64 8, .int .i64 1, .int .i64 1, .int .i64 0] 0) := by
  have := apiCount_any smB w h
  rwa [p3, p10] at this
theorem aw_around (w : World) : Calls Tryz.prog 68 #[.agg #[.int .i64 2, .int .i64 2]] w (RBE w (aroundL (2, 2)) 0) := by
  have := apiAround_any 2 2 w
  rwa [p12] at this
theorem aw_minus {v u : Value} (w : World) (h : SlB w v bigB) (h' : SlB w u (aroundL (2, 2))) : Calls Tryz.prog 37 #[v, u] w (RBE w minB 0) := by
  have := apiMinus_any bigB (aroundL (2, 2)) w h h'
  rwa [p13] at this
theorem aw_count2 {v : Value} (w : World) (h : SlB w v minB) : Calls Tryz.prog 24 #[v] w (RLE w #[.int .i64 12, .int .i64 12, .int .i64 0, .int .i64 1, .int .i64 1] 0) := by
  have := apiCount_any minB w h
  rwa [p14, p15] at this
theorem aw_turn {v : Value} (w : World) (h : SlB w v [(1, 1, -1)]) : Calls Tryz.prog 58 #[v, .int .i64 1] w (RBE w [(-2, 0, 1)] 0) := by
  have := apiTurn_any [(1, 1, -1)] 1 w h
  rwa [p16, p17, show onlyOk 0 [((-2 : Int), (0 : Int), (1 : Int))] = [(-2, 0, 1)] from rfl] at this
theorem aw_mirror {v : Value} (w : World) (h : SlB w v [(2, 0, 1)]) : Calls Tryz.prog 57 #[v] w (RBE w [(-2, 0, -1)] 0) := by
  have := apiMirror_any [(2, 0, 1)] w h
  rwa [p18, p19, show onlyOk 0 [((-2 : Int), (0 : Int), (-1 : Int))] = [(-2, 0, -1)] from rfl] at this
theorem aw_canon {v : Value} (w : World) (h : SlB w v [(5, 3, 1)]) : Calls Tryz.prog 29 #[v] w (RBE w [(0, 0, -1)] 0) := by
  have := canon_any [(5, 3, 1)] w h
  rwa [p20, p21] at this
theorem aw_parts {v : Value} (w : World) (h : SlB w v [(0, 0, 1), (4, 0, 1)]) : Calls Tryz.prog 22 #[v] w (RRE w (partsL [(0, 0, 1), (4, 0, 1)]) 0) := by
  have := apiParts_any [(0, 0, 1), (4, 0, 1)] w h
  rwa [p22, show onlyOk 0 (partsL [(0, 0, 1), (4, 0, 1)]) = partsL [(0, 0, 1), (4, 0, 1)] from rfl] at this
theorem aw_draw (w : World) : Calls Tryz.prog 73 #[.int .i64 1, .int .i64 3] w (RIE w [0, 2, 1] 0) := by
  have := apiDraw_any 1 3 w
  rwa [p24, p25] at this
@[go_sem] theorem eq_legs (w : World) : (Op.equalIn 10000 52 (.agg #[.int .i64 0, .int .i64 4, .int .i64 2, .int .i64 0, .int .i64 2]) (.agg #[.int .i64 0, .int .i64 4, .int .i64 2, .int .i64 0, .int .i64 2])).run Tryz.prog w = .ok true w := by kernel_rfl
@[go_sem] theorem eq_mesh (w : World) : (Op.equalIn 10000 121 (.agg #[.int .i64 2, .int .i64 1]) (.agg #[.int .i64 2, .int .i64 1])).run Tryz.prog w = .ok true w := by kernel_rfl
@[go_sem] theorem eq_count1 (w : World) : (Op.equalIn 10000 39 (.agg #[.int .i64 8, .int .i64 8, .int .i64 1, .int .i64 1, .int .i64 0]) (.agg #[.int .i64 8, .int .i64 8, .int .i64 1, .int .i64 1, .int .i64 0])).run Tryz.prog w = .ok true w := by kernel_rfl
@[go_sem] theorem eq_count2 (w : World) : (Op.equalIn 10000 39 (.agg #[.int .i64 12, .int .i64 12, .int .i64 0, .int .i64 1, .int .i64 1]) (.agg #[.int .i64 12, .int .i64 12, .int .i64 0, .int .i64 1, .int .i64 1])).run Tryz.prog w = .ok true w := by kernel_rfl
theorem awake_any (w : World) (hL : Lay w) : Calls Tryz.prog 17 #[] w (RV w (.bool true)) := by
  go_enter Tryz.func17, Tryz.ntmps17
  go_wp2_with fail
  refine (aw_sheet _).mono ?_
  rintro e w1 ⟨v1, rfl, hA1, hb1⟩
  obtain ⟨A1, c1, rfl⟩ := hA1.shape
  go_wp2_with fail
  refine (small_any _).mono ?_
  rintro e w2 ⟨v2, rfl, hS2, hb2⟩
  go_wp2_with fail
  refine (aw_knots _ (hS2.rd bc_len)).mono ?_
  rintro e w3 ⟨v3, rfl, hK3, hb3⟩
  obtain ⟨A3, c3, hv3⟩ : ∃ A c, v3 = .slice A 8 c := by obtain ⟨A, c, rfl⟩ := hK3.shape; exact ⟨A, c, by rw [p4]⟩
  subst hv3
  go_wp2_with fail
  refine (small_any _).mono ?_
  rintro e w4 ⟨v4, rfl, hS4, hb4⟩
  go_wp2_with fail
  refine (aw_legs _ (hS4.rd bc_len)).mono ?_
  rintro e w5 ⟨rfl, hb5⟩
  have hB5 := Blk.new w5 52 #[.int .i64 0, .int .i64 4, .int .i64 2, .int .i64 0, .int .i64 2]
  have fhB5 := hB5.facts
  go_wp2_with fail
  refine (small_any _).mono ?_
  rintro e w6 ⟨v6, rfl, hS6, hb6⟩
  replace hB5 := hB5.below (show Below _ _ w6 by (repeat (first | exact bl_refl | assumption | (apply bl_then; assumption) | refine bl_alloc ?_ _ | refine bl_drew ?_ | refine bl_drewN ?_ _)))
  replace fhB5 := hB5.facts
  go_wp2_with fail
  refine (aw_meshes _ (hS6.rd bc_len)).mono ?_
  rintro e w7 ⟨v7, rfl, hM7, hb7⟩
  replace hB5 := hB5.below (show Below _ _ w7 by (repeat (first | exact bl_refl | assumption | (apply bl_then; assumption) | refine bl_alloc ?_ _ | refine bl_drew ?_ | refine bl_drewN ?_ _)))
  replace fhB5 := hB5.facts
  obtain ⟨A7, c7, rfl⟩ := hM7.shape
  go_wp2_with fail
  refine (small_any _).mono ?_
  rintro e w8 ⟨v8, rfl, hS8, hb8⟩
  replace hB5 := hB5.below (show Below _ _ w8 by (repeat (first | exact bl_refl | assumption | (apply bl_then; assumption) | refine bl_alloc ?_ _ | refine bl_drew ?_ | refine bl_drewN ?_ _)))
  replace fhB5 := hB5.facts
  go_wp2_with fail
  refine (aw_print _ (hS8.rd bc_len) (hL.below (by (repeat (first | exact bl_refl | assumption | (apply bl_then; assumption) | refine bl_alloc ?_ _ | refine bl_drew ?_ | refine bl_drewN ?_ _))))).mono ?_
  rintro e w9 ⟨rfl, hb9⟩
  replace hB5 := hB5.below (show Below _ _ w9 by (repeat (first | exact bl_refl | assumption | (apply bl_then; assumption) | refine bl_alloc ?_ _ | refine bl_drew ?_ | refine bl_drewN ?_ _)))
  replace fhB5 := hB5.facts
  go_wp2_with fail
  refine (aw_parse _ (hL.below (by (repeat (first | exact bl_refl | assumption | (apply bl_then; assumption) | refine bl_alloc ?_ _ | refine bl_drew ?_ | refine bl_drewN ?_ _))))).mono ?_
  rintro e w10 ⟨v10, rfl, hP10, hb10⟩
  replace hB5 := hB5.below (show Below _ _ w10 by (repeat (first | exact bl_refl | assumption | (apply bl_then; assumption) | refine bl_alloc ?_ _ | refine bl_drew ?_ | refine bl_drewN ?_ _)))
  replace fhB5 := hB5.facts
  obtain ⟨A10, c10, rfl⟩ := hP10.shape
  go_wp2_with fail
  refine (small_any _).mono ?_
  rintro e w11 ⟨v11, rfl, hS11, hb11⟩
  replace hB5 := hB5.below (show Below _ _ w11 by (repeat (first | exact bl_refl | assumption | (apply bl_then; assumption) | refine bl_alloc ?_ _ | refine bl_drew ?_ | refine bl_drewN ?_ _)))
  replace fhB5 := hB5.facts
  go_wp2_with fail
  refine (aw_count _ (hS11.rd bc_len)).mono ?_
  rintro e w12 ⟨rfl, hb12⟩
  replace hB5 := hB5.below (show Below _ _ w12 by (repeat (first | exact bl_refl | assumption | (apply bl_then; assumption) | refine bl_alloc ?_ _ | refine bl_drew ?_ | refine bl_drewN ?_ _)))
  replace fhB5 := hB5.facts
  have hB12 := Blk.new w12 39 #[.int .i64 8, .int .i64 8, .int .i64 1, .int .i64 1, .int .i64 0]
  have fhB12 := hB12.facts
  go_wp2_with fail
  refine (small_any _).mono ?_
  rintro e w13 ⟨v13, rfl, hS13, hb13⟩
  replace hB5 := hB5.below (show Below _ _ w13 by (repeat (first | exact bl_refl | assumption | (apply bl_then; assumption) | refine bl_alloc ?_ _ | refine bl_drew ?_ | refine bl_drewN ?_ _)))
  replace fhB5 := hB5.facts
  replace hB12 := hB12.below (show Below _ _ w13 by (repeat (first | exact bl_refl | assumption | (apply bl_then; assumption) | refine bl_alloc ?_ _ | refine bl_drew ?_ | refine bl_drewN ?_ _)))
  replace fhB12 := hB12.facts
  go_wp2_with fail
  refine (sameBars_any smB smB _ ((hA1.rd bc_len).below (by (repeat (first | exact bl_refl | assumption | (apply bl_then; assumption) | refine bl_alloc ?_ _ | refine bl_drew ?_ | refine bl_drewN ?_ _)))) (hS13.rd bc_len)).mono ?_
  rintro e w14 ⟨rfl, hb14⟩
  replace hB5 := hB5.below (show Below _ _ w14 by (repeat (first | exact bl_refl | assumption | (apply bl_then; assumption) | refine bl_alloc ?_ _ | refine bl_drew ?_ | refine bl_drewN ?_ _)))
  replace fhB5 := hB5.facts
  replace hB12 := hB12.below (show Below _ _ w14 by (repeat (first | exact bl_refl | assumption | (apply bl_then; assumption) | refine bl_alloc ?_ _ | refine bl_drew ?_ | refine bl_drewN ?_ _)))
  replace fhB12 := hB12.facts
  simp only [show sV smS = Value.string { data := #[48, 58, 32, 48, 47, 32, 50, 92, 32, 50, 47, 32, 52, 92, 10, 49, 58, 32, 49, 92, 32, 49, 47, 32, 51, 92, 32, 51, 47, 10] } from rfl]
  obtain ⟨_, _, e0, _, _, hr0⟩ := (hM7.rd kc_len).below (show Below w7.heap.size w7 w14 by (repeat (first | exact bl_refl | assumption | (apply bl_then; assumption) | refine bl_alloc ?_ _ | refine bl_drew ?_ | refine bl_drewN ?_ _)))
  obtain ⟨rfl, rfl⟩ : A7 = _ ∧ c7 = _ := by simpa using e0
  obtain ⟨b7, o7, rfl, hlt7, hm0, hm1⟩ := hr0.knot (k := 0) (by decide)
  simp only [Nat.zero_mul, Nat.add_zero, List.getElem_cons_zero] at hm0 hm1
  clear e0 hr0
  go_wp2_with fail
  refine (small_any _).mono ?_
  rintro e w15 ⟨v15, rfl, hS15, hb15⟩
  replace hB5 := hB5.below (show Below _ _ w15 by (repeat (first | exact bl_refl | assumption | (apply bl_then; assumption) | refine bl_alloc ?_ _ | refine bl_drew ?_ | refine bl_drewN ?_ _)))
  replace fhB5 := hB5.facts
  replace hB12 := hB12.below (show Below _ _ w15 by (repeat (first | exact bl_refl | assumption | (apply bl_then; assumption) | refine bl_alloc ?_ _ | refine bl_drew ?_ | refine bl_drewN ?_ _)))
  replace fhB12 := hB12.facts
  go_wp2_with fail
  refine (sameBars_any smB smB _ ((hP10.rd bc_len).below (by (repeat (first | exact bl_refl | assumption | (apply bl_then; assumption) | refine bl_alloc ?_ _ | refine bl_drew ?_ | refine bl_drewN ?_ _)))) (hS15.rd bc_len)).mono ?_
  rintro e w16 ⟨rfl, hb16⟩
  replace hB5 := hB5.below (show Below _ _ w16 by (repeat (first | exact bl_refl | assumption | (apply bl_then; assumption) | refine bl_alloc ?_ _ | refine bl_drew ?_ | refine bl_drewN ?_ _)))
  replace fhB5 := hB5.facts
  replace hB12 := hB12.below (show Below _ _ w16 by (repeat (first | exact bl_refl | assumption | (apply bl_then; assumption) | refine bl_alloc ?_ _ | refine bl_drew ?_ | refine bl_drewN ?_ _)))
  replace fhB12 := hB12.facts
  have hbw16 : Below w.heap.size w w16 := by (repeat (first | exact bl_refl | assumption | (apply bl_then; assumption) | refine bl_alloc ?_ _ | refine bl_drew ?_ | refine bl_drewN ?_ _))
  clear hB5 fhB5 hA1 hS2 hK3 hS4 hS6 hM7 hS8 hP10 hS11 hS13 hS15 hm0 hm1 hlt7 hb1 hb2 hb3 hb4 hb5 hb6 hb7 hb8 hb9 hb10 hb11 hb12 hb13 hb14 hb15 hb16
  go_wp2_with fail
  refine (aw_big _).mono ?_
  rintro e w17 ⟨v17, rfl, hA17, hb17⟩
  obtain ⟨A17, c17, rfl⟩ := hA17.shape
  go_wp2_with fail
  refine (aw_around _).mono ?_
  rintro e w18 ⟨v18, rfl, hA18, hb18⟩
  obtain ⟨A18, c18, rfl⟩ := hA18.shape
  go_wp2_with fail
  refine (aw_minus _ ((hA17.rd bc_len).below (by (repeat (first | exact bl_refl | assumption | (apply bl_then; assumption) | refine bl_alloc ?_ _ | refine bl_drew ?_ | refine bl_drewN ?_ _)))) (hA18.rd bc_len)).mono ?_
  rintro e w19 ⟨v19, rfl, hM19, hb19⟩
  obtain ⟨A19, c19, rfl⟩ := hM19.shape
  go_wp2_with fail
  refine (aw_count2 _ (hM19.rd bc_len)).mono ?_
  rintro e w20 ⟨rfl, hb20⟩
  have hB20 := Blk.new w20 39 #[.int .i64 12, .int .i64 12, .int .i64 0, .int .i64 1, .int .i64 1]
  have fhB20 := hB20.facts
  go_upto_region 14 with fail
  obtain ⟨x20, hx20⟩ : ∃ x, w20.alloc (.cells #[.int .i64 12, .int .i64 12, .int .i64 0, .int .i64 1, .int .i64 1] 39) = x := ⟨_, rfl⟩
  have hbx20 : Below w.heap.size w x20 := by rw [← hx20]; (exact bl_alloc (bl_then hb20 (bl_then hb19 (bl_then hb18 (bl_then hb17 hbw16)))) _)
  rw [hx20] at hB20 fhB20 ⊢
  clear hx20 hb17 hb18 hb19 hb20 hbw16
  have hR14 := (own_new x20 (Nat.le_refl _) [(1, 1, -1)] (by decide) #[.int .i64 1, .int .i64 1, .int .i64 (-1)] rfl 1 rfl).rd bc_len
  go_wp2_with fail
  refine (aw_turn _ hR14).mono ?_
  rintro e w21 ⟨v21, rfl, hT21, hb21⟩
  replace hB20 := hB20.below (show Below _ _ w21 by (repeat (first | exact bl_refl | assumption | (apply bl_then; assumption) | refine bl_alloc ?_ _ | refine bl_drew ?_ | refine bl_drewN ?_ _)))
  replace fhB20 := hB20.facts
  obtain ⟨A21, c21, rfl⟩ := hT21.shape
  have hR15 := (own_new w21 (Nat.le_refl _) [(2, 0, 1)] (by decide) #[.int .i64 2, .int .i64 0, .int .i64 1] rfl 1 rfl).rd bc_len
  go_wp2_with fail
  refine (aw_mirror _ hR15).mono ?_
  rintro e w22 ⟨v22, rfl, hM22, hb22⟩
  replace hB20 := hB20.below (show Below _ _ w22 by (repeat (first | exact bl_refl | assumption | (apply bl_then; assumption) | refine bl_alloc ?_ _ | refine bl_drew ?_ | refine bl_drewN ?_ _)))
  replace fhB20 := hB20.facts
  obtain ⟨A22, c22, rfl⟩ := hM22.shape
  have hR16 := (own_new w22 (Nat.le_refl _) [(5, 3, 1)] (by decide) #[.int .i64 5, .int .i64 3, .int .i64 1] rfl 1 rfl).rd bc_len
  go_wp2_with fail
  refine (aw_canon _ hR16).mono ?_
  rintro e w23 ⟨v23, rfl, hC23, hb23⟩
  replace hB20 := hB20.below (show Below _ _ w23 by (repeat (first | exact bl_refl | assumption | (apply bl_then; assumption) | refine bl_alloc ?_ _ | refine bl_drew ?_ | refine bl_drewN ?_ _)))
  replace fhB20 := hB20.facts
  obtain ⟨A23, c23, rfl⟩ := hC23.shape
  have hR17 := (own_new w23 (Nat.le_refl _) [(0, 0, 1), (4, 0, 1)] (by decide) #[.int .i64 0, .int .i64 0, .int .i64 1, .int .i64 4, .int .i64 0, .int .i64 1] rfl 2 rfl).rd bc_len
  go_wp2_with fail
  refine (aw_parts _ hR17).mono ?_
  rintro e w24 ⟨v24, rfl, ⟨ts, ht1, ht2⟩, hb24⟩
  replace hB20 := hB20.below (show Below _ _ w24 by (repeat (first | exact bl_refl | assumption | (apply bl_then; assumption) | refine bl_alloc ?_ _ | refine bl_drew ?_ | refine bl_drewN ?_ _)))
  replace fhB20 := hB20.facts
  obtain ⟨A24, c24, rfl⟩ := ht1.shape
  have htl : ts.length = 2 := by rw [ht2.len, p23]
  go_wp2_with fail
  refine (aw_draw _).mono ?_
  rintro e w25 ⟨v25, rfl, hD25, hb25⟩
  replace hB20 := hB20.below (show Below _ _ w25 by (repeat (first | exact bl_refl | assumption | (apply bl_then; assumption) | refine bl_alloc ?_ _ | refine bl_drew ?_ | refine bl_drewN ?_ _)))
  replace fhB20 := hB20.facts
  obtain ⟨A25, c25, rfl⟩ := hD25.shape
  have hR25 := (own_new w25 (Nat.le_refl _) [(-2, 0, 1)] (by decide) #[.int .i64 (-2), .int .i64 0, .int .i64 1] rfl 1 rfl).rd bc_len
  go_wp2_with fail
  refine (sameBars_any [(-2, 0, 1)] [(-2, 0, 1)] _ ((hT21.rd bc_len).below (by (repeat (first | exact bl_refl | assumption | (apply bl_then; assumption) | refine bl_alloc ?_ _ | refine bl_drew ?_ | refine bl_drewN ?_ _)))) hR25).mono ?_
  rintro e w26 ⟨rfl, hb26⟩
  have hR26 := (own_new w26 (Nat.le_refl _) [(-2, 0, -1)] (by decide) #[.int .i64 (-2), .int .i64 0, .int .i64 (-1)] rfl 1 rfl).rd bc_len
  go_wp2_with fail
  refine (sameBars_any [(-2, 0, -1)] [(-2, 0, -1)] _ ((hM22.rd bc_len).below (by (repeat (first | exact bl_refl | assumption | (apply bl_then; assumption) | refine bl_alloc ?_ _ | refine bl_drew ?_ | refine bl_drewN ?_ _)))) hR26).mono ?_
  rintro e w27 ⟨rfl, hb27⟩
  have hR27 := (own_new w27 (Nat.le_refl _) [(0, 0, -1)] (by decide) #[.int .i64 0, .int .i64 0, .int .i64 (-1)] rfl 1 rfl).rd bc_len
  go_wp2_with fail
  refine (sameBars_any [(0, 0, -1)] [(0, 0, -1)] _ ((hC23.rd bc_len).below (by (repeat (first | exact bl_refl | assumption | (apply bl_then; assumption) | refine bl_alloc ?_ _ | refine bl_drew ?_ | refine bl_drewN ?_ _)))) hR27).mono ?_
  rintro e w28 ⟨rfl, hb28⟩
  have hR28 := (own_newI w28 (Nat.le_refl _) [0, 2, 1] (by decide) #[.int .i64 0, .int .i64 2, .int .i64 1] rfl 3 rfl).rd ic_len
  go_wp2_with fail
  refine (sameInts_any [0, 2, 1] [0, 2, 1] _ ((hD25.rd ic_len).below (by (repeat (first | exact bl_refl | assumption | (apply bl_then; assumption) | refine bl_alloc ?_ _ | refine bl_drew ?_ | refine bl_drewN ?_ _)))) hR28).mono ?_
  rintro e w29 ⟨rfl, hb29⟩
  go_wp2
  go_ret
  exact ⟨rfl, by (repeat (first | exact bl_refl | assumption | (apply bl_then; assumption) | refine bl_alloc ?_ _ | refine bl_drew ?_ | refine bl_drewN ?_ _))⟩
end Go.Proofs.YtkmjcoofkgpanaaGreatDoor
