/- The reference's split and Cut, walked. Conditions: the panel is valid. -/
import Derived.Test.YthkjgcldolnjaaaGreatDoorL48
import Derived.Test.YthkjgcldolnjaaaGreatDoorL47
import Derived.Test.YthkjgcldolnjaaaGreatDoorL46
import Derived.Test.YthkjgcldolnjaaaGreatDoorL42
import Derived.Test.YthkjgcldolnjaaaGreatDoorL35
import Derived.Test.YthkjgcldolnjaaaGreatDoorL25
import Derived.Test.YthkjgcldolnjaaaGreatDoorL34
import Derived.Test.YthkjgcldolnjaaaGreatDoorL26
import Derived.Test.YthkjgcldolnjaaaGreatDoorL13
import Derived.Test.YthkjgcldolnjaaaGreatDoorL30
namespace Go.Proofs.YthkjgcldolnjaaaGreatDoor
open Go.RowKit Go.ChangeMaps
set_option maxHeartbeats 4000000
set_option maxRecDepth 100000

attribute [local go_sem] Oper.semAt_some
/-! # The reference's split and Cut -/
/-- the place of a height: the index, and whether there is one -/
def sprI (S : Int) : Int := if S < 0 then 0 else S
theorem rsplit_any {v : Value} (l : List Stp) (O : List Knot) (row : Int) (w : World) (h : SlS w v l) (hl : l.length ≤ 1000) (hO : O.length = l.length + 1) (hOg : ∀ (j : Nat) (hj : j < O.length), O[j].2 = riseL (l.take j)) :
    Calls Tryz.prog 97 #[v, .int .i64 row] w (RV w (.tuple #[.int .i64 (sprI (splitI O row)), .bool (decide (0 ≤ splitI O row))])) := by
  obtain ⟨A, c, rfl, hlc, hcm, hr⟩ := h
  have cR := fun (k : Nat) (hk : k ≤ l.length) W (hb : Below w.heap.size w W) => rrise_any (l.take k) W ((sl_pre hr hk (show k ≤ c by omega) hcm).below hb) (by rw [List.length_take]; omega)
  have HG := Lib.hid hOg
  have hS0 : Hid (splitI O row = splitG row (O.drop 0) 0) := rfl
  go_enter Tryz.func97, Tryz.ntmps97
  go_wp2
  go_loopw [6] (fun i wr => ∃ k : Nat, k ≤ l.length + 1 ∧ i = .int .i64 k ∧ Hid (splitI O row = splitG row (O.drop k) k) ∧ Below w.heap.size w wr) (fun i _ => l.length + 1 - (intOf i).toNat)
  case atStart => exact ⟨0, Nat.zero_le _, rfl, hS0, bl_refl⟩
  case round =>
    obtain ⟨k, hk, rfl, HK, hbw⟩ := hrel
    obtain ⟨wo, rfl⟩ : ∃ x, x = wr := ⟨_, rfl⟩
    by_cases hlt : k ≤ l.length
    · have hkO : k < O.length := by omega
      have HS := Lib.hid (splitG_at (y := row) hkO k)
      have cK := cR k hlt _ hbw
      have hg := HG.out k hkO
      obtain ⟨R, hR⟩ : ∃ R, riseL (l.take k) = R := ⟨_, rfl⟩
      rw [hR] at cK hg
      have HS2 : Hid (splitG row (O.drop k) k = if R == row then (k : Int) else splitG row (O.drop (k + 1)) (k + 1)) := by unfold Hid; rw [HS.out, hg]
      have hkc : k ≤ c := by omega
      clear hg HS hR
      obtain ⟨q, hq⟩ : ∃ q, (R == row) = q := ⟨_, rfl⟩
      rw [hq] at HS2
      go_wp2_with fail
      refine cK.mono ?_
      rintro e w2 ⟨rfl, hb2⟩
      have hbw2 : Below w.heap.size w w2 := bl_then hb2 hbw
      cases q
      · have HK2 : Hid (splitI O row = splitG row (O.drop (k + 1)) (k + 1)) := by unfold Hid; rw [HK.out, HS2.out]; simp
        go_wp2
        go_roundw
        case rel => exact ⟨k + 1, by omega, by go_num, HK2.out, hbw2⟩
        case measure => simp [intOf]; omega
      · have HK2 : Hid (splitI O row = (k : Int)) := by unfold Hid; rw [HK.out, HS2.out]; simp
        go_wp2
        go_ret2
        exact ⟨by rw [HK2.out]; unfold sprI; rw [if_neg (by omega), decide_eq_true (by omega)]; rfl, hbw2⟩
    · have hk1 : k = l.length + 1 := by omega
      have HE : Hid (splitI O row = -1) := by unfold Hid; rw [HK.out, List.drop_of_length_le (by omega)]; rfl
      have tk : ((k : Int) ≤ (l.length : Int)) = False := eq_false (by omega)
      go_wp2
      go_ret2
      exact ⟨by rw [HE.out]; rfl, hbw⟩
theorem rcornersS_any {vL vR : Value} (p : Pan) (w : World) (hL : SlE w vL p.2.2.1) (hR : SlE w vR p.2.2.2) (hl : SideOk p.2.2.1) (hr : SideOk p.2.2.2) (hw0 : 0 ≤ p.2.1 ∧ p.2.1 ≤ 128) :
    Calls Tryz.prog 73 #[.agg #[sV p.1, .int .i64 p.2.1, vL, vR]] w (RV w (.agg (cornA p))) := by
  have o1 := fun W (hb : Below w.heap.size w W) => routline_any p false W (hL.below hb) (hR.below hb) hl hr hw0
  have o2 := fun W (hb : Below w.heap.size w W) => routline_any p true W (hL.below hb) (hR.below hb) hl hr hw0
  have l1 : (outP p false).length = (stpL (sideP p false)).length + 1 := outK_len _ _ _
  have l2 : (outP p true).length = (stpL (sideP p true)).length + 1 := outK_len _ _ _
  have h1 := out_head p false
  have h2 := out_head p true
  have e1 := out_last p false
  have e2 := out_last p true
  simp only [sideP, Bool.false_eq_true, if_false, if_true] at e1 e2 l1 l2
  have HC : Hid (cornA p = #[.int .i64 (fromP p false).1, .int .i64 (fromP p false).2, .int .i64 (fromP p true).1, .int .i64 (fromP p true).2,
    .int .i64 (posK false (fromP p false) (stpL p.2.2.1)).1, .int .i64 (posK false (fromP p false) (stpL p.2.2.1)).2, .int .i64 (posK true (fromP p true) (stpL p.2.2.2)).1, .int .i64 (posK true (fromP p true) (stpL p.2.2.2)).2]) := rfl
  obtain ⟨C, hC⟩ : ∃ C, cornA p = C := ⟨_, rfl⟩
  rw [hC] at HC ⊢
  clear hC
  obtain ⟨⟨x1, y1⟩, hk1⟩ : ∃ z, posK false (fromP p false) (stpL p.2.2.1) = z := ⟨_, rfl⟩
  obtain ⟨⟨x2, y2⟩, hk2⟩ : ∃ z, posK true (fromP p true) (stpL p.2.2.2) = z := ⟨_, rfl⟩
  rw [hk1] at e1 HC
  rw [hk2] at e2 HC
  clear hk1 hk2
  obtain ⟨⟨a1, b1⟩, hk1⟩ : ∃ z, fromP p false = z := ⟨_, rfl⟩
  obtain ⟨⟨a2, b2⟩, hk2⟩ : ∃ z, fromP p true = z := ⟨_, rfl⟩
  rw [hk1] at h1 HC
  rw [hk2] at h2 HC
  clear hk1 hk2
  obtain ⟨n1, hn1⟩ : ∃ n, (stpL p.2.2.1).length = n := ⟨_, rfl⟩
  obtain ⟨n2, hn2⟩ : ∃ n, (stpL p.2.2.2).length = n := ⟨_, rfl⟩
  have hs1 : n1 ≤ 512 := by rw [← hn1]; exact hl.len
  have hs2 : n2 ≤ 512 := by rw [← hn2]; exact hr.len
  rw [hn1] at l1
  rw [hn2] at l2
  clear hn1 hn2
  obtain ⟨O1, hO1⟩ : ∃ O, outP p false = O := ⟨_, rfl⟩
  obtain ⟨O2, hO2⟩ : ∃ O, outP p true = O := ⟨_, rfl⟩
  rw [hO1] at o1 l1 h1 e1
  rw [hO2] at o2 l2 h2 e2
  clear hO1 hO2
  rw [l1, Nat.add_sub_cancel] at e1
  rw [l2, Nat.add_sub_cancel] at e2
  have HH1 := Lib.hid h1
  have HH2 := Lib.hid h2
  have HE1 := Lib.hid e1
  have HE2 := Lib.hid e2
  have HL1 := Lib.hid l1
  have HL2 := Lib.hid l2
  clear h1 h2 e1 e2 l1 l2
  obtain ⟨AL, cL, rfl, _, _, _⟩ := hL
  obtain ⟨AR, cR, rfl, _, _, _⟩ := hR
  unfold sV at o1 o2 ⊢
  have hP := (Blk.new w 24 #[.string ⟨p.1.toArray⟩, .int .i64 p.2.1, .slice AL p.2.2.1.length cL, .slice AR p.2.2.2.length cR]).alloc (.cells #[.int .i64 0, .int .i64 0, .int .i64 0, .int .i64 0, .int .i64 0, .int .i64 0, .int .i64 0, .int .i64 0] 104)
  have hZ := Blk.new1 w (.cells #[.string ⟨p.1.toArray⟩, .int .i64 p.2.1, .slice AL p.2.2.1.length cL, .slice AR p.2.2.2.length cR] 24) 104 #[.int .i64 0, .int .i64 0, .int .i64 0, .int .i64 0, .int .i64 0, .int .i64 0, .int .i64 0, .int .i64 0]
  clear hl hr hw0
  go_enter Tryz.func73, Tryz.ntmps73
  go_upto_region 1 with fail
  obtain ⟨w1, hw1⟩ : ∃ X, (w.alloc (.cells #[.string ⟨p.1.toArray⟩, .int .i64 p.2.1, .slice AL p.2.2.1.length cL, .slice AR p.2.2.2.length cR] 24)).alloc (.cells #[.int .i64 0, .int .i64 0, .int .i64 0, .int .i64 0, .int .i64 0, .int .i64 0, .int .i64 0, .int .i64 0] 104) = X := ⟨_, rfl⟩
  have hb1 : Below w.heap.size w w1 := by rw [← hw1]; exact bl_alloc (bl_alloc bl_refl _) _
  rw [hw1] at hP hZ ⊢
  clear hw1
  have fhP := hP.facts
  refine wp_region_ords [0, 2] [(1, false)] [3, 4, 5] (by kernel_rfl) (by kernel_rfl) (fun d _ _ _ _ h => by cases d <;> exact h) ?_
  simp only [List.map_cons, List.map_nil, List.getD_cons_zero, List.getD_cons_succ]
  repeat (go_big_quiet_step (fail))
  refine wpQuiet_nil ?_
  refine wpMid_run rfl (fun K hK => ?_)
  go_simp
  refine (o1 _ (by (repeat first|exact J0|assumption|(apply J1;assumption)|apply J2|apply J3|apply J4))).mono ?_
  rintro e w8 ⟨v8, rfl, hO8, hb8⟩
  refine hK _ _ (by (repeat first|exact J0|assumption|(apply J1;assumption)|apply J2|apply J3|apply J4)) ?_
  clear hK K
  have hP_w8 := hP.below (show Below _ _ w8 by (repeat first|exact J0|assumption|(apply J1;assumption)|apply J2|apply J3|apply J4))
  have fhP_w8 := hP_w8.facts
  refine wpMid_nil ?_
  go_wp2_with (go_at_call 70; refine (o2 _ (by (repeat first|exact J0|assumption|(apply J1;assumption)|apply J2|apply J3|apply J4))).mono ?_; rintro e w9 ⟨v9, rfl, hO9, hb9⟩)
  obtain ⟨A8, c8, rfl⟩ := hO8.shape
  obtain ⟨_, _, he8, hlc8, hcm8, hr8⟩ := hO8.rd kc_len
  obtain ⟨rfl, rfl⟩ : A8 = _ ∧ c8 = _ := by simpa using he8
  obtain ⟨A9, c9, rfl⟩ := hO9.shape
  obtain ⟨_, _, he9, hlc9, hcm9, hr9⟩ := hO9.rd kc_len
  obtain ⟨rfl, rfl⟩ : A9 = _ ∧ c9 = _ := by simpa using he9
  have hb19 : Below w1.heap.size w1 w9 := by (repeat first|exact J0|assumption|(apply J1;assumption)|apply J2|apply J3|apply J4)
  have hbw9 : Below w.heap.size w w9 := bl_then hb19 hb1
  have hZ9 := hZ.below hb19
  replace hr8 := hr8.below (show Below w8.heap.size w8 w9 by (repeat first|exact J0|assumption|(apply J1;assumption)|apply J2|apply J3|apply J4))
  obtain ⟨s8, o8, hA8, hl8, p8, q8⟩ := hr8.knot (k := 0) (by have := HL1.out; omega)
  obtain ⟨s9, o9, hA9, hl9, p9, q9⟩ := hr9.knot (k := 0) (by have := HL2.out; omega)
  obtain ⟨s8', o8', hA8', _, P8, Q8⟩ := hr8.knot (k := n1) (by have := HL1.out; omega)
  obtain ⟨s9', o9', hA9', _, P9, Q9⟩ := hr9.knot (k := n2) (by have := HL2.out; omega)
  subst hA8 hA9
  obtain ⟨rfl, rfl⟩ : s8 = s8' ∧ o8 = o8' := by simpa using hA8'
  obtain ⟨rfl, rfl⟩ : s9 = s9' ∧ o9 = o9' := by simpa using hA9'
  rw [(List.getElem?_eq_some_iff.1 HH1.out).2] at p8 q8
  rw [(List.getElem?_eq_some_iff.1 HH2.out).2] at p9 q9
  rw [(List.getElem?_eq_some_iff.1 HE1.out).2] at P8 Q8
  rw [(List.getElem?_eq_some_iff.1 HE2.out).2] at P9 Q9
  simp only [Nat.zero_mul, Nat.add_zero] at p8 q8 p9 q9 P8 Q8 P9 Q9
  rw [HL1.out, HL2.out]
  have ee1 : (((n1 + 1 : Nat) : Int) - 1) = (n1 : Int) := by omega
  have ee2 : (((n2 + 1 : Nat) : Int) - 1) = (n2 : Int) := by omega
  clear he8 he9 hO8 hO9 hb8 hb9 hP fhP hP_w8 fhP_w8 o1 o2 hZ hb19 hb1 hA8' hA9' hlc8 hcm8 hlc9 hcm9 hr8 hr9
  go_upto_region 2 with fail
  refine wp_region_ords [0, 1, 2, 3, 4, 5, 6, 7, 8, 9, 10, 11, 12, 13, 14, 15, 16, 17, 18] [] [19] (by kernel_rfl) (by kernel_rfl) (fun d _ _ _ _ h => by cases d <;> exact h) ?_
  simp only [List.map_cons, List.map_nil, List.getD_cons_zero, List.getD_cons_succ]
  repeat (go_big_quiet_step (fail))
  refine wpQuiet_nil ?_
  refine wpMid_nil ?_
  go_wp2_with (refine wpList_store_blk (hZ9.drew) rfl _ _ _ rfl rfl rfl (by rfl) (by kernel_rfl) (by kernel_rfl) ?_; intro w12 hZ12 hc12; have f12 := hZ12.facts)
  refine bodyPost_ret (v := .agg #[.int .i64 a1, .int .i64 b1, .int .i64 a2, .int .i64 b2, .int .i64 x1, .int .i64 y1, .int .i64 x2, .int .i64 y2]) (by simp [results, Tryz.results73, go_sem, f12]) rfl ?_
  exact ⟨by rw [HC.out], chg_bl (by (repeat first|exact J0|assumption|(apply J1;assumption)|apply J2|apply J3|apply J4)) hc12 (by omega)⟩
/-! ## plain forms are valid sides -/
theorem pln_good (l : List Stp) (hl : ∀ x ∈ l, ltr x.1) : ∀ e ∈ plnL l, e.1 ≠ [] ∧ e.1.length ≤ 64 ∧ (∀ c ∈ e.1, ltr c) ∧ e.2.1 = 1 := by
  have h : ∀ (l : List Stp) (s : PlS), (∀ x ∈ l, ltr x.1) → PlOk s → (∀ c ∈ s.2.1, ltr c) → (∀ e ∈ s.1, e.1 ≠ [] ∧ e.1.length ≤ 64 ∧ (∀ c ∈ e.1, ltr c) ∧ e.2.1 = 1) → PlOk (l.foldl plS s) ∧ (∀ c ∈ (l.foldl plS s).2.1, ltr c) ∧ ∀ e ∈ (l.foldl plS s).1, e.1 ≠ [] ∧ e.1.length ≤ 64 ∧ (∀ c ∈ e.1, ltr c) ∧ e.2.1 = 1 := by
    intro l
    induction l with
    | nil => intro s _ h1 h2 h3; exact ⟨h1, h2, h3⟩
    | cons x r ih =>
      intro s hx h1 h2 h3
      have hx0 := hx x (List.mem_cons_self ..)
      refine ih (plS s x) (fun y hy => hx y (List.mem_cons_of_mem _ hy)) (plS_ok h1 x).1 ?_ ?_
      · by_cases hc : cutS s x = true
        · rw [plR_cut h1 hc]
          intro c hm
          simp only [List.mem_singleton] at hm
          rw [hm]; exact hx0
        · rw [plR_on h1 (by simpa using hc)]
          intro c hm
          rcases List.mem_append.1 hm with hm | hm
          · exact h2 c hm
          · simp only [List.mem_singleton] at hm
            rw [hm]; exact hx0
      · by_cases hc : cutS s x = true
        · rw [plR_cut h1 hc]
          intro e he
          simp only at he
          unfold refO at he
          split at he
          · exact h3 e he
          · rename_i hw
            rcases List.mem_append.1 he with he | he
            · exact h3 e he
            · simp only [List.mem_singleton] at he
              rw [he]
              exact ⟨hw, h1.len, h2, rfl⟩
        · rw [plR_on h1 (by simpa using hc)]
          exact h3
  obtain ⟨h1, h2, h3⟩ := h l ([], [], 0) hl ⟨.inl rfl, by simp⟩ (fun c hc => by cases hc) (fun e he => by cases he)
  rw [← refO_end]
  intro e he
  unfold refO at he
  split at he
  · exact h3 e he
  · rename_i hw
    rcases List.mem_append.1 he with he | he
    · exact h3 e he
    · simp only [List.mem_singleton] at he
      rw [he]
      exact ⟨hw, h1.len, h2, rfl⟩
theorem pln_side {l : List Stp} (hn : l.length ≤ 64) (hl : ∀ x ∈ l, ltr x.1) : SideOk (plnL l) := by
  have h1 := refO_len l
  rw [refO_end] at h1
  have h2 := (pln_same l).1
  refine ⟨by omega, fun e he => ?_, by omega⟩
  obtain ⟨q1, q2, q3, q4⟩ := pln_good l hl e he
  unfold edgE
  have hw : wrongW e.1 = false := by
    unfold wrongW
    rw [List.any_eq_false]
    intro c hc
    rcases q3 c hc with h | h | h <;> rw [h] <;> decide
  rw [hw, q4]
  unfold whenI
  rw [decide_eq_false q1, decide_eq_false (by omega)]
  decide
theorem cut_top {p : Pan} {i k : Nat} (hi : i < (outP p false).length) (hk : k < (outP p true).length) : topX (cutA p i k) true - topX (cutA p i k) false = cutD p i k := by
  have e1 : topX (cutA p i k) false = ((outP p false).getD i (0, 0)).1 := by
    have h : posK false (fromP p false) (stpL (plnL ((stpL p.2.2.1).take i))) = posK false (fromP p false) ((stpL p.2.2.1).take i) := SameL.pos (pln_same _)
    have g : (outP p false)[i] = posK false (fromP p false) ((stpL p.2.2.1).take i) := outK_get false _ _ i hi
    rw [List.getD_eq_getElem?_getD, List.getElem?_eq_getElem hi, Option.getD_some, g, ← h]
    rfl
  have e2 : topX (cutA p i k) true = ((outP p true).getD k (0, 0)).1 := by
    have h : posK true (fromP p true) (stpL (plnL ((stpL p.2.2.2).take k))) = posK true (fromP p true) ((stpL p.2.2.2).take k) := SameL.pos (pln_same _)
    have g : (outP p true)[k] = posK true (fromP p true) ((stpL p.2.2.2).take k) := outK_get true _ _ k hk
    rw [List.getD_eq_getElem?_getD, List.getElem?_eq_getElem hk, Option.getD_some, g, ← h]
    rfl
  rw [e1, e2]
  rfl
theorem slice_fromR {A : Option Addr} {c i : Nat} {l : List Stp} {w : World} (h : Rd sc 2 w A l) (hlc : l.length ≤ c) (hc : c ≤ maxLen) (hi : i ≤ l.length) :
    ∃ A1 c1, (∀ W, (Instr.slice 113 (.slice A l.length c) (some (.int .i64 i)) none none).run Tryz.prog W = .ok (.slice A1 (l.length - i) c1) W) ∧ Sl sc 2 w (.slice A1 (l.length - i) c1) (l.drop i) := by
  obtain ⟨A1, c1, he, q1, q2, hr⟩ := sl_post h hlc hi hc
  have hsl : Sl sc 2 w (.slice A1 (l.length - i) c1) (l.drop i) := ⟨A1, c1, by rw [List.length_drop], q1, q2, hr⟩
  refine ⟨A1, c1, fun W => ?_, hsl⟩
  have hu : Tryz.prog.underlying 113 = some (.slice (Tryz.prog.elem 113)) := by kernel_rfl
  have hs : ∀ W, (sizeOf (Tryz.prog.elem 113)).run Tryz.prog W = .ok 2 W := fun W => by kernel_rfl
  rw [run_slice_l W 113 A l.length c hu .i64 i (by omega) (by omega), hs]
  simp only [Result.andThen_ok, sliced]
  rw [List.length_drop] at he
  rw [Int.toNat_natCast]
  exact congrArg (fun v => Result.ok v W) he
theorem fromP_y2 (p : Pan) (right : Bool) : (fromP p right).2 = 0 := by unfold fromP; split <;> rfl
theorem topS_near (q : Pan) (hw : 1 ≤ q.2.1 ∧ q.2.1 ≤ 128) (h1 : (stpL q.2.2.1).length ≤ 512) (h2 : (stpL q.2.2.2).length ≤ 512) : (-100000 ≤ topX q false ∧ topX q false ≤ 100000) ∧ -100000 ≤ topX q true ∧ topX q true ≤ 100000 := by
  have h : ∀ right, (stpL (sideP q right)).length ≤ 512 → -100000 ≤ topX q right ∧ topX q right ≤ 100000 := fun right hl => by
    have h0 : -256 ≤ (fromP q right).1 ∧ (fromP q right).1 ≤ 256 ∧ 0 ≤ (fromP q right).2 ∧ (fromP q right).2 ≤ 256 := by
      unfold fromP
      split <;> simp only <;> omega
    have := end_near (right := right) (n := 256) (stpL (sideP q right)) h0
    unfold topX
    omega
  exact ⟨h false h1, h true h2⟩
def RP2R (w : World) (q r : Pan) (n : Bool) (e : Ending) (w' : World) : Prop :=
  ∃ a b c d, e = .returned (.tuple #[.agg #[sV q.1, .int .i64 q.2.1, a, b, sV r.1, .int .i64 r.2.1, c, d], .bool n]) ∧ Own ec 3 w.heap.size 60 w' a q.2.2.1 ∧ Own ec 3 w.heap.size 60 w' b q.2.2.2 ∧ Own ec 3 w.heap.size 60 w' c r.2.2.1 ∧ Own ec 3 w.heap.size 60 w' d r.2.2.2 ∧ Below w.heap.size w w'
theorem rCut_none {vL vR : Value} (p : Pan) (y : Int) (w : World) (hL : SlE w vL p.2.2.1) (hR : SlE w vR p.2.2.2) (hok : PanOk p) (hs : splitI (outP p false) y < 0 ∨ splitI (outP p true) y < 0) :
    Calls Tryz.prog 46 #[.agg #[sV p.1, .int .i64 p.2.1, vL, vR], .int .i64 y] w (RP2R w panZ panZ false) := by
  have kL := fun W (hb : Below w.heap.size w W) => rsteps_any p.2.2.1 W (hL.below hb) hok.left
  have kR := fun W (hb : Below w.heap.size w W) => rsteps_any p.2.2.2 W (hR.below hb) hok.right
  have el1 : (outP p false).length = (stpL p.2.2.1).length + 1 := outK_len _ _ _
  have el2 : (outP p true).length = (stpL p.2.2.2).length + 1 := outK_len _ _ _
  have ll := hok.left.len
  have lr := hok.right.len
  have og1 : ∀ (j : Nat) (hj : j < (outP p false).length), (outP p false)[j].2 = riseL ((stpL p.2.2.1).take j) := fun j hj => by
    have g : (outP p false)[j] = posK false (fromP p false) ((stpL p.2.2.1).take j) := outK_get false _ _ j hj
    rw [g, end_y, fromP_y2, Int.zero_add]
  have og2 : ∀ (j : Nat) (hj : j < (outP p true).length), (outP p true)[j].2 = riseL ((stpL p.2.2.2).take j) := fun j hj => by
    have g : (outP p true)[j] = posK true (fromP p true) ((stpL p.2.2.2).take j) := outK_get true _ _ j hj
    rw [g, end_y, fromP_y2, Int.zero_add]
  have cs1 := fun (v : Value) W h => rsplit_any (v := v) (stpL p.2.2.1) (outP p false) y W h (by omega) el1 og1
  have cs2 := fun (v : Value) W h => rsplit_any (v := v) (stpL p.2.2.2) (outP p true) y W h (by omega) el2 og2
  obtain ⟨S1, hS1⟩ : ∃ S, splitI (outP p false) y = S := ⟨_, rfl⟩
  obtain ⟨S2, hS2⟩ : ∃ S, splitI (outP p true) y = S := ⟨_, rfl⟩
  rw [hS1] at hs cs1
  rw [hS2] at hs cs2
  obtain ⟨I1, hI1⟩ : ∃ z, sprI S1 = z := ⟨_, rfl⟩
  obtain ⟨I2, hI2⟩ : ∃ z, sprI S2 = z := ⟨_, rfl⟩
  rw [hI1] at cs1
  rw [hI2] at cs2
  have hx : decide (0 ≤ S1) = false ∨ (decide (0 ≤ S1) = true ∧ decide (0 ≤ S2) = false) := by
    by_cases h : S1 < 0
    · exact .inl (decide_eq_false (by omega))
    · exact .inr ⟨decide_eq_true (by omega), decide_eq_false (by have := hs.resolve_left h; omega)⟩
  obtain ⟨q1, hq1⟩ : ∃ z, decide (0 ≤ S1) = z := ⟨_, rfl⟩
  obtain ⟨q2, hq2⟩ : ∃ z, decide (0 ≤ S2) = z := ⟨_, rfl⟩
  rw [hq1] at cs1 hx
  rw [hq2] at cs2 hx
  obtain ⟨AL, cL, rfl, _, _, _⟩ := hL
  obtain ⟨AR, cR, rfl, _, _, _⟩ := hR
  clear hs hS1 hS2 hI1 hI2 hq1 hq2 hok og1 og2
  rcases hx with rfl | ⟨rfl, rfl⟩
  all_goals
    have hs : sV p.1 = .string ⟨p.1.toArray⟩ := rfl
    rw [hs]
    have hP := (Blk.new w 24 #[.string ⟨p.1.toArray⟩, .int .i64 p.2.1, .slice AL p.2.2.1.length cL, .slice AR p.2.2.2.length cR]).alloc (.cells #[.string ⟨#[]⟩, .int .i64 0, .slice none 0 0, .slice none 0 0, .string ⟨#[]⟩, .int .i64 0, .slice none 0 0, .slice none 0 0] 77)
    have hZ := Blk.new1 w (.cells #[.string ⟨p.1.toArray⟩, .int .i64 p.2.1, .slice AL p.2.2.1.length cL, .slice AR p.2.2.2.length cR] 24) 77 #[.string ⟨#[]⟩, .int .i64 0, .slice none 0 0, .slice none 0 0, .string ⟨#[]⟩, .int .i64 0, .slice none 0 0, .slice none 0 0]
    have fhP := hP.facts
    have fhZ := hZ.facts
    clear hs
    go_enter Tryz.func46, Tryz.ntmps46
    go_upto_region 1 with fail
    refine wp_region_ords [0, 1, 3, 4] [(2, false)] [5, 6, 7] (by kernel_rfl) (by kernel_rfl) (fun d _ _ _ _ h => by cases d <;> exact h) ?_
    simp only [List.map_cons, List.map_nil, List.getD_cons_zero, List.getD_cons_succ]
    repeat (go_big_quiet_step (fail))
    refine wpQuiet_nil ?_
    refine wpMid_run rfl (fun K hK => ?_)
    go_simp
    refine (kL _ (by (repeat first|exact J0|assumption|(apply J1;assumption)|apply J2|apply J3|apply J4))).mono ?_
    rintro e w2 ⟨v2, rfl, hO2, hb2⟩
    refine hK _ _ (by (repeat first|exact J0|assumption|(apply J1;assumption)|apply J2|apply J3|apply J4)) ?_
    clear hK K
    have hP_w2 := hP.below (show Below _ _ w2 by (repeat first|exact J0|assumption|(apply J1;assumption)|apply J2|apply J3|apply J4))
    have fhP_w2 := hP_w2.facts
    have hZ_w2 := hZ.below (show Below _ _ w2 by (repeat first|exact J0|assumption|(apply J1;assumption)|apply J2|apply J3|apply J4))
    have fhZ_w2 := hZ_w2.facts
    refine wpMid_nil ?_
    go_wp2_with fail
    refine (kR _ (by (repeat first|exact J0|assumption|(apply J1;assumption)|apply J2|apply J3|apply J4))).mono ?_
    rintro e w3 ⟨v3, rfl, hO3, hb3⟩
    obtain ⟨A2, c2, rfl, hl2, hm2, rl⟩ := (hO2.rd sc_len).below (show Below w2.heap.size w2 w3 by (repeat first|exact J0|assumption|(apply J1;assumption)|apply J2|apply J3|apply J4))
    obtain ⟨A3, c3, rfl, hl3, hm3, rr⟩ := hO3.rd sc_len
    have hbw3 : Below w.heap.size w w3 := by (repeat first|exact J0|assumption|(apply J1;assumption)|apply J2|apply J3|apply J4)
    have hP3 := hP_w2.below hb3
    have hZ3 := hZ_w2.below hb3
    go_wp2_with fail
    refine (cs1 _ _ ⟨A2, c2, rfl, hl2, hm2, rl⟩).mono ?_
    rintro e w4 ⟨rfl, hb4⟩
    go_wp2_with fail
    refine (cs2 _ _ ⟨A3, c3, rfl, hl3, hm3, rr.below hb4⟩).mono ?_
    rintro e w5 ⟨rfl, hb5⟩
    have hx5 : Below w3.heap.size w3 w5 := bl_then hb5 hb4
    have hP5 := hP3.below hx5
    have hZ5 := hZ3.below hx5
    have hW5 : Below w.heap.size w w5 := bl_then hx5 hbw3
    have fP5 := hP5.facts
    have rl5 := rl.below hx5
    have rr5 := rr.below hx5
    have hzw : w.heap.size + 1 < w5.heap.size := hZ5.lt
    clear hP hZ hP_w2 hZ_w2 hP3 hZ3 fhP fhZ fhP_w2 fhZ_w2 hb2 hb3 hb4 hb5 hO2 hO3 rl rr hx5 hbw3 kL kR cs1 cs2
    go_wp2_with (refine wpList_store_blk hZ5 rfl _ _ _ rfl rfl rfl (by rfl) (by kernel_rfl) (by kernel_rfl) ?_; intro w12 hZ12 hc12; have f12 := hZ12.facts)
    refine bodyPost_ret (v := .tuple #[.agg #[.string ⟨#[]⟩, .int .i64 0, .slice none 0 0, .slice none 0 0, .string ⟨#[]⟩, .int .i64 0, .slice none 0 0, .slice none 0 0], .bool false]) (by simp [results, Tryz.results46, go_sem, f12]) rfl ?_
    exact ⟨_, _, _, _, rfl, Own.nil_, Own.nil_, Own.nil_, Own.nil_, chg_bl hW5 hc12 (by omega)⟩
theorem rCut_some {vL vR : Value} (p : Pan) (y : Int) (w : World) (hL : SlE w vL p.2.2.1) (hR : SlE w vR p.2.2.2) (hok : PanOk p) (i k : Nat) (hi : splitI (outP p false) y = i) (hk : splitI (outP p true) y = k) (hn1 : (stpL p.2.2.1).length ≤ 64) (hn2 : (stpL p.2.2.2).length ≤ 64) :
    Calls Tryz.prog 46 #[.agg #[sV p.1, .int .i64 p.2.1, vL, vR], .int .i64 y] w (RP2R w (cutA p i k) (cutB p i k) true) := by
  have kL := fun W (hb : Below w.heap.size w W) => rsteps_any p.2.2.1 W (hL.below hb) hok.left
  have kR := fun W (hb : Below w.heap.size w W) => rsteps_any p.2.2.2 W (hR.below hb) hok.right
  have el1 : (outP p false).length = (stpL p.2.2.1).length + 1 := outK_len _ _ _
  have el2 : (outP p true).length = (stpL p.2.2.2).length + 1 := outK_len _ _ _
  have ll := hok.left.len
  have lr := hok.right.len
  have og1 : ∀ (j : Nat) (hj : j < (outP p false).length), (outP p false)[j].2 = riseL ((stpL p.2.2.1).take j) := fun j hj => by
    have g : (outP p false)[j] = posK false (fromP p false) ((stpL p.2.2.1).take j) := outK_get false _ _ j hj
    rw [g, end_y, fromP_y2, Int.zero_add]
  have og2 : ∀ (j : Nat) (hj : j < (outP p true).length), (outP p true)[j].2 = riseL ((stpL p.2.2.2).take j) := fun j hj => by
    have g : (outP p true)[j] = posK true (fromP p true) ((stpL p.2.2.2).take j) := outK_get true _ _ j hj
    rw [g, end_y, fromP_y2, Int.zero_add]
  have cs1 := fun (v : Value) W h => rsplit_any (v := v) (stpL p.2.2.1) (outP p false) y W h (by omega) el1 og1
  have cs2 := fun (v : Value) W h => rsplit_any (v := v) (stpL p.2.2.2) (outP p true) y W h (by omega) el2 og2
  have hi2 : i < (outP p false).length := by have := (splitG_lt (outP p false) 0 (by show (0 : Int) ≤ splitI (outP p false) y; omega)).1; have e : splitG y (outP p false) 0 = i := hi; omega
  have hk2 : k < (outP p true).length := by have := (splitG_lt (outP p true) 0 (by show (0 : Int) ≤ splitI (outP p true) y; omega)).1; have e : splitG y (outP p true) 0 = k := hk; omega
  have hi3 : i ≤ (stpL p.2.2.1).length := by omega
  have hk3 : k ≤ (stpL p.2.2.2).length := by omega
  have tl := hok.left.ltrs
  have tr := hok.right.ltrs
  rw [hi, show sprI (i : Int) = i from if_neg (by omega), show decide (0 ≤ (i : Int)) = true from decide_eq_true (by omega)] at cs1
  rw [hk, show sprI (k : Int) = k from if_neg (by omega), show decide (0 ≤ (k : Int)) = true from decide_eq_true (by omega)] at cs2
  have hct := cut_top hi2 hk2
  have hn := topS_near (cutA p i k) hok.wid (by show (stpL (plnL ((stpL p.2.2.1).take i))).length ≤ 512; rw [(pln_same _).1, List.length_take]; omega) (by show (stpL (plnL ((stpL p.2.2.2).take k))).length ≤ 512; rw [(pln_same _).1, List.length_take]; omega)
  have sA1 : SideOk (plnL ((stpL p.2.2.1).take i)) := pln_side (by rw [List.length_take]; omega) (fun x hx => tl x (List.mem_of_mem_take hx))
  have sA2 : SideOk (plnL ((stpL p.2.2.2).take k)) := pln_side (by rw [List.length_take]; omega) (fun x hx => tr x (List.mem_of_mem_take hx))
  have hw0 : 0 ≤ p.2.1 ∧ p.2.1 ≤ 128 := ⟨by have := hok.wid.1; omega, hok.wid.2⟩
  have cC := fun (a b : Value) W h1 h2 => rcornersS_any (vL := a) (vR := b) (cutA p i k) W h1 h2 sA1 sA2 hw0
  obtain ⟨x0, x1, x2, x3, y2, y3, hC⟩ : ∃ x0 x1 x2 x3 y2 y3 : Int, cornA (cutA p i k) = #[.int .i64 x0, .int .i64 x1, .int .i64 x2, .int .i64 x3, .int .i64 (topX (cutA p i k) false), .int .i64 y2, .int .i64 (topX (cutA p i k) true), .int .i64 y3] := ⟨_, _, _, _, _, _, rfl⟩
  rw [hC] at cC
  obtain ⟨X1, hX1⟩ : ∃ X, topX (cutA p i k) false = X := ⟨_, rfl⟩
  obtain ⟨X2, hX2⟩ : ∃ X, topX (cutA p i k) true = X := ⟨_, rfl⟩
  rw [hX1, hX2] at cC hct
  rw [hX1] at hn
  rw [hX2] at hn
  have HA : Hid (cutA p i k = (p.1, p.2.1, plnL ((stpL p.2.2.1).take i), plnL ((stpL p.2.2.2).take k))) := rfl
  have HB : Hid (cutB p i k = (p.1, (X2 - X1).tdiv 2, plnL ((stpL p.2.2.1).drop i), plnL ((stpL p.2.2.2).drop k))) := by unfold Hid; rw [hct]; rfl
  obtain ⟨AL, cL, rfl, _, _, _⟩ := hL
  obtain ⟨AR, cR, rfl, _, _, _⟩ := hR
  obtain ⟨SL, hSL⟩ : ∃ z, stpL p.2.2.1 = z := ⟨_, rfl⟩
  obtain ⟨SR, hSR⟩ : ∃ z, stpL p.2.2.2 = z := ⟨_, rfl⟩
  rw [hSL] at kL HA HB hi3 ll cs1
  rw [hSR] at kR HA HB hk3 lr cs2
  have pA1 := fun (v : Value) W h => rplain_any (v := v) (SL.take i) W h (by rw [List.length_take]; omega)
  have pA2 := fun (v : Value) W h => rplain_any (v := v) (SR.take k) W h (by rw [List.length_take]; omega)
  have pB1 := fun (v : Value) W h => rplain_any (v := v) (SL.drop i) W h (by rw [List.length_drop]; omega)
  have pB2 := fun (v : Value) W h => rplain_any (v := v) (SR.drop k) W h (by rw [List.length_drop]; omega)
  obtain ⟨CA, hCA⟩ : ∃ z, cutA p i k = z := ⟨_, rfl⟩
  obtain ⟨CB, hCB⟩ : ∃ z, cutB p i k = z := ⟨_, rfl⟩
  rw [hCA] at HA cC ⊢
  rw [hCB] at HB ⊢
  have hA := HA.out
  have hB := HB.out
  subst hA
  subst hB
  obtain ⟨l1, hl1⟩ : ∃ z, plnL (SL.take i) = z := ⟨_, rfl⟩
  obtain ⟨l2, hl2⟩ : ∃ z, plnL (SR.take k) = z := ⟨_, rfl⟩
  obtain ⟨l3, hl3⟩ : ∃ z, plnL (SL.drop i) = z := ⟨_, rfl⟩
  obtain ⟨l4, hl4⟩ : ∃ z, plnL (SR.drop k) = z := ⟨_, rfl⟩
  rw [hl1] at pA1 cC ⊢
  rw [hl2] at pA2 cC ⊢
  rw [hl3] at pB1 ⊢
  rw [hl4] at pB2 ⊢
  simp only [sV] at cC
  clear HA HB hok hSL hSR og1 og2 hi hk hi2 hk2 el1 el2 tl tr hct sA1 sA2 hw0 hC hX1 hX2 hCA hCB hl1 hl2 hl3 hl4
  have hs : sV p.1 = .string ⟨p.1.toArray⟩ := rfl
  rw [hs]
  have hP := (Blk.new w 24 #[.string ⟨p.1.toArray⟩, .int .i64 p.2.1, .slice AL p.2.2.1.length cL, .slice AR p.2.2.2.length cR]).alloc (.cells #[.string ⟨#[]⟩, .int .i64 0, .slice none 0 0, .slice none 0 0, .string ⟨#[]⟩, .int .i64 0, .slice none 0 0, .slice none 0 0] 77)
  have hZ := Blk.new1 w (.cells #[.string ⟨p.1.toArray⟩, .int .i64 p.2.1, .slice AL p.2.2.1.length cL, .slice AR p.2.2.2.length cR] 24) 77 #[.string ⟨#[]⟩, .int .i64 0, .slice none 0 0, .slice none 0 0, .string ⟨#[]⟩, .int .i64 0, .slice none 0 0, .slice none 0 0]
  have fhP := hP.facts
  have fhZ := hZ.facts
  clear hs
  go_enter Tryz.func46, Tryz.ntmps46
  go_upto_region 1 with fail
  refine wp_region_ords [0, 1, 3, 4] [(2, false)] [5, 6, 7] (by kernel_rfl) (by kernel_rfl) (fun d _ _ _ _ h => by cases d <;> exact h) ?_
  simp only [List.map_cons, List.map_nil, List.getD_cons_zero, List.getD_cons_succ]
  repeat (go_big_quiet_step (fail))
  refine wpQuiet_nil ?_
  refine wpMid_run rfl (fun K hK => ?_)
  go_simp
  refine (kL _ (by (repeat first|exact J0|assumption|(apply J1;assumption)|apply J2|apply J3|apply J4))).mono ?_
  rintro e w2 ⟨v2, rfl, hO2, hb2⟩
  refine hK _ _ (by (repeat first|exact J0|assumption|(apply J1;assumption)|apply J2|apply J3|apply J4)) ?_
  clear hK K
  have hP_w2 := hP.below (show Below _ _ w2 by (repeat first|exact J0|assumption|(apply J1;assumption)|apply J2|apply J3|apply J4))
  have fhP_w2 := hP_w2.facts
  have hZ_w2 := hZ.below (show Below _ _ w2 by (repeat first|exact J0|assumption|(apply J1;assumption)|apply J2|apply J3|apply J4))
  have fhZ_w2 := hZ_w2.facts
  refine wpMid_nil ?_
  go_wp2_with fail
  refine (kR _ (by (repeat first|exact J0|assumption|(apply J1;assumption)|apply J2|apply J3|apply J4))).mono ?_
  rintro e w3 ⟨v3, rfl, hO3, hb3⟩
  obtain ⟨A2, c2, rfl, hl2, hm2, rl⟩ := (hO2.rd sc_len).below (show Below w2.heap.size w2 w3 by (repeat first|exact J0|assumption|(apply J1;assumption)|apply J2|apply J3|apply J4))
  obtain ⟨A3, c3, rfl, hl3, hm3, rr⟩ := hO3.rd sc_len
  have hbw3 : Below w.heap.size w w3 := by (repeat first|exact J0|assumption|(apply J1;assumption)|apply J2|apply J3|apply J4)
  have hP3 := hP_w2.below hb3
  have hZ3 := hZ_w2.below hb3
  go_wp2_with fail
  refine (cs1 _ _ ⟨A2, c2, rfl, hl2, hm2, rl⟩).mono ?_
  rintro e w4 ⟨rfl, hb4⟩
  go_wp2_with fail
  refine (cs2 _ _ ⟨A3, c3, rfl, hl3, hm3, rr.below hb4⟩).mono ?_
  rintro e w5 ⟨rfl, hb5⟩
  have hx5 : Below w3.heap.size w3 w5 := bl_then hb5 hb4
  have hP5 := hP3.below hx5
  have hZ5 := hZ3.below hx5
  have hW5 : Below w.heap.size w w5 := bl_then hx5 hbw3
  have fP5 := hP5.facts
  have rl5 := rl.below hx5
  have rr5 := rr.below hx5
  have hzw : w.heap.size + 1 < w5.heap.size := hZ5.lt
  clear hP hZ hP_w2 hZ_w2 hP3 hZ3 fhP fhZ fhP_w2 fhZ_w2 hb2 hb3 hb4 hb5 hO2 hO3 rl rr hx5 hbw3 kL kR cs1 cs2
  have hic : i ≤ c2 := by omega
  have hkc : k ≤ c3 := by omega
  have q1 := sl_pre rl5 hi3 hic hm2
  have q2 := sl_pre rr5 hk3 hkc hm3
  go_upto_region 6 with fail
  go_upto_region 6 with fail
  go_cut [12] from 39 ((fun s12 wx => ∃ g A c B d, s12 = .pointer (some ⟨g, 0, none⟩) ∧ Blk wx g 24 #[.string ⟨p.1.toArray⟩, .int .i64 p.2.1, .slice A l1.length c, .slice B l2.length d] ∧ Own ec 3 w5.heap.size 60 wx (.slice A l1.length c) l1 ∧ Own ec 3 w5.heap.size 60 wx (.slice B l2.length d) l2 ∧ Below w5.heap.size w5 wx))
  case first =>
    refine wp_region_tree [0, 1, 2, 3, 4, 5, 6, 8, 9, 10] (.alt (.br 7 (.alt (.br 11 (.take 12 (.alt (.br 13 (.fin) (.stop)))) (.br 13 (.alt (.br 11 (.take 12 (.fin)) (.stop))) (.stop)))) (.br 13 (.alt (.br 7 (.alt (.br 11 (.take 12 (.fin)) (.stop))) (.stop))) (.stop)))) [14] (by kernel_rfl) (by kernel_rfl) (fun d _ _ _ _ h => by cases d <;> exact h) ?_
    simp only [List.map_cons, List.map_nil, List.getD_cons_zero, List.getD_cons_succ]
    repeat (go_big_quiet_step (fail))
    refine wpQuiet_nil ?_
    refine wpTree_alt (wpTree_br rfl rfl ?_ (wpTree_br rfl rfl ?_ wpTree_stop))
    · intro K hK
      go_simp
      refine (pA1 _ _ (q1.below (by (repeat first|exact J0|assumption|(apply J1;assumption)|apply J2|apply J3|apply J4)))).mono ?_
      rintro e w16 ⟨v16, rfl, hO7, hb16⟩
      refine hK _ _ (by (repeat first|exact J0|assumption|(apply J1;assumption)|apply J2|apply J3|apply J4)) ?_
      clear hK K
      obtain ⟨A7, c7, rfl⟩ := hO7.shape
      refine wpTree_alt (wpTree_br rfl rfl ?_ (wpTree_br rfl rfl ?_ wpTree_stop))
      · intro K hK
        go_simp
        refine (pA2 _ _ (q2.below (by (repeat first|exact J0|assumption|(apply J1;assumption)|apply J2|apply J3|apply J4)))).mono ?_
        rintro e w17 ⟨v17, rfl, hO8, hb17⟩
        refine hK _ _ (by (repeat first|exact J0|assumption|(apply J1;assumption)|apply J2|apply J3|apply J4)) ?_
        clear hK K
        obtain ⟨A8, c8, rfl⟩ := hO8.shape
        refine wpTree_take rfl rfl ?_; intro K hK; simp only [Array.getD_eq_getD_getElem?, List.getElem?_toArray, List.getElem?_cons_succ, List.getElem?_cons_zero, Option.getD_some]; go_big_quiet_op; go_big_quiet_on
        refine wpTree_alt (wpTree_br rfl rfl ?_ wpTree_stop)
        have hS0 := Blk.new (w17) 24 #[.string ⟨#[]⟩, .int .i64 0, .slice none 0 0, .slice none 0 0]
        intro K hK
        go_simp
        refine hK _ _ (by (repeat first|exact J0|assumption|(apply J1;assumption)|apply J2|apply J3|apply J4)) ?_
        clear hK K
        refine wpTree_fin ?_
        have hS1 := hS0.below (show Below _ _ (w17.alloc (.cells #[.string ⟨#[]⟩, .int .i64 0, .slice none 0 0, .slice none 0 0] 24)) by (repeat first|exact J0|assumption|(apply J1;assumption)|apply J2|apply J3|apply J4))
        go_wp2_with (refine wpList_store_blk hS1 rfl _ _ _ rfl rfl rfl (by rfl) (by kernel_rfl) (by kernel_rfl) ?_; intro w7 hS7 hc7)
        have hg7 : w5.heap.size ≤ (w17).heap.size := Below.size (show Below w5.heap.size w5 (w17) by (repeat first|exact J0|assumption|(apply J1;assumption)|apply J2|apply J3|apply J4))
        have hb7 : Below w5.heap.size w5 w7 := chg_bl (by (repeat first|exact J0|assumption|(apply J1;assumption)|apply J2|apply J3|apply J4)) hc7 hg7
        go_meet
        case rel => exact ⟨((w17).heap.size), A7, c7, A8, c8, rfl, hS7, ((hO7.below (by (repeat first|exact J0|assumption|(apply J1;assumption)|apply J2|apply J3|apply J4))).pastC hS1 (by decide) hc7).base_mono (Below.size (by (repeat first|exact J0|assumption|(apply J1;assumption)|apply J2|apply J3|apply J4))), ((hO8.below (by (repeat first|exact J0|assumption|(apply J1;assumption)|apply J2|apply J3|apply J4))).pastC hS1 (by decide) hc7).base_mono (Below.size (by (repeat first|exact J0|assumption|(apply J1;assumption)|apply J2|apply J3|apply J4))), hb7⟩
      · have hS0 := Blk.new (w16) 24 #[.string ⟨#[]⟩, .int .i64 0, .slice none 0 0, .slice none 0 0]
        intro K hK
        go_simp
        refine hK _ _ (by (repeat first|exact J0|assumption|(apply J1;assumption)|apply J2|apply J3|apply J4)) ?_
        clear hK K
        refine wpTree_alt (wpTree_br rfl rfl ?_ wpTree_stop)
        intro K hK
        go_simp
        refine (pA2 _ _ (q2.below (by (repeat first|exact J0|assumption|(apply J1;assumption)|apply J2|apply J3|apply J4)))).mono ?_
        rintro e w17 ⟨v17, rfl, hO8, hb17⟩
        refine hK _ _ (by (repeat first|exact J0|assumption|(apply J1;assumption)|apply J2|apply J3|apply J4)) ?_
        clear hK K
        obtain ⟨A8, c8, rfl⟩ := hO8.shape
        refine wpTree_take rfl rfl ?_; intro K hK; simp only [Array.getD_eq_getD_getElem?, List.getElem?_toArray, List.getElem?_cons_succ, List.getElem?_cons_zero, Option.getD_some]; go_big_quiet_op; go_big_quiet_on
        refine wpTree_fin ?_
        have hS1 := hS0.below (show Below _ _ (w17) by (repeat first|exact J0|assumption|(apply J1;assumption)|apply J2|apply J3|apply J4))
        go_wp2_with (refine wpList_store_blk hS1 rfl _ _ _ rfl rfl rfl (by rfl) (by kernel_rfl) (by kernel_rfl) ?_; intro w7 hS7 hc7)
        have hg7 : w5.heap.size ≤ (w16).heap.size := Below.size (show Below w5.heap.size w5 (w16) by (repeat first|exact J0|assumption|(apply J1;assumption)|apply J2|apply J3|apply J4))
        have hb7 : Below w5.heap.size w5 w7 := chg_bl (by (repeat first|exact J0|assumption|(apply J1;assumption)|apply J2|apply J3|apply J4)) hc7 hg7
        go_meet
        case rel => exact ⟨((w16).heap.size), A7, c7, A8, c8, rfl, hS7, ((hO7.below (by (repeat first|exact J0|assumption|(apply J1;assumption)|apply J2|apply J3|apply J4))).pastC hS1 (by decide) hc7).base_mono (Below.size (by (repeat first|exact J0|assumption|(apply J1;assumption)|apply J2|apply J3|apply J4))), ((hO8.below (by (repeat first|exact J0|assumption|(apply J1;assumption)|apply J2|apply J3|apply J4))).pastC hS1 (by decide) hc7).base_mono (Below.size (by (repeat first|exact J0|assumption|(apply J1;assumption)|apply J2|apply J3|apply J4))), hb7⟩
    · have hS0 := Blk.new (w5.drew) 24 #[.string ⟨#[]⟩, .int .i64 0, .slice none 0 0, .slice none 0 0]
      intro K hK
      go_simp
      refine hK _ _ (by (repeat first|exact J0|assumption|(apply J1;assumption)|apply J2|apply J3|apply J4)) ?_
      clear hK K
      refine wpTree_alt (wpTree_br rfl rfl ?_ wpTree_stop)
      intro K hK
      go_simp
      refine (pA1 _ _ (q1.below (by (repeat first|exact J0|assumption|(apply J1;assumption)|apply J2|apply J3|apply J4)))).mono ?_
      rintro e w16 ⟨v16, rfl, hO7, hb16⟩
      refine hK _ _ (by (repeat first|exact J0|assumption|(apply J1;assumption)|apply J2|apply J3|apply J4)) ?_
      clear hK K
      obtain ⟨A7, c7, rfl⟩ := hO7.shape
      refine wpTree_alt (wpTree_br rfl rfl ?_ wpTree_stop)
      intro K hK
      go_simp
      refine (pA2 _ _ (q2.below (by (repeat first|exact J0|assumption|(apply J1;assumption)|apply J2|apply J3|apply J4)))).mono ?_
      rintro e w17 ⟨v17, rfl, hO8, hb17⟩
      refine hK _ _ (by (repeat first|exact J0|assumption|(apply J1;assumption)|apply J2|apply J3|apply J4)) ?_
      clear hK K
      obtain ⟨A8, c8, rfl⟩ := hO8.shape
      refine wpTree_take rfl rfl ?_; intro K hK; simp only [Array.getD_eq_getD_getElem?, List.getElem?_toArray, List.getElem?_cons_succ, List.getElem?_cons_zero, Option.getD_some]; go_big_quiet_op; go_big_quiet_on
      refine wpTree_fin ?_
      have hS1 := hS0.below (show Below _ _ (w17) by (repeat first|exact J0|assumption|(apply J1;assumption)|apply J2|apply J3|apply J4))
      go_wp2_with (refine wpList_store_blk hS1 rfl _ _ _ rfl rfl rfl (by rfl) (by kernel_rfl) (by kernel_rfl) ?_; intro w7 hS7 hc7)
      have hg7 : w5.heap.size ≤ (w5.drew).heap.size := Below.size (show Below w5.heap.size w5 (w5.drew) by (repeat first|exact J0|assumption|(apply J1;assumption)|apply J2|apply J3|apply J4))
      have hb7 : Below w5.heap.size w5 w7 := chg_bl (by (repeat first|exact J0|assumption|(apply J1;assumption)|apply J2|apply J3|apply J4)) hc7 hg7
      go_meet
      case rel => exact ⟨((w5.drew).heap.size), A7, c7, A8, c8, rfl, hS7, ((hO7.below (by (repeat first|exact J0|assumption|(apply J1;assumption)|apply J2|apply J3|apply J4))).pastC hS1 (by decide) hc7).base_mono (Below.size (by (repeat first|exact J0|assumption|(apply J1;assumption)|apply J2|apply J3|apply J4))), ((hO8.below (by (repeat first|exact J0|assumption|(apply J1;assumption)|apply J2|apply J3|apply J4))).pastC hS1 (by decide) hc7).base_mono (Below.size (by (repeat first|exact J0|assumption|(apply J1;assumption)|apply J2|apply J3|apply J4))), hb7⟩
  case rest =>
    obtain ⟨g12, A7, c7, A8, c8, rfl, hS12, hu1, hu2, hbc⟩ := hcut
    obtain ⟨w20, rfl⟩ : ∃ x, x = wc := ⟨_, rfl⟩
    have hP20 := hP5.below hbc
    have hZ20 := hZ5.below hbc
    have rl20 := rl5.below hbc
    have rr20 := rr5.below hbc
    have hW20 := bl_then hbc hW5
    have hzc := hbc.size
    have fS12 := hS12.facts
    clear hP5 hZ5 rl5 rr5 fP5 q1 q2 hW5
    go_wp2_with fail
    refine (cC _ _ _ (hu1.rd ec_len) (hu2.rd ec_len)).mono ?_
    rintro e w21 ⟨rfl, hb21⟩
    replace hP20 := hP20.below (show Below _ _ w21 by (repeat first|exact J0|assumption|(apply J1;assumption)|apply J2|apply J3|apply J4))
    replace fhP20 := hP20.facts
    replace hZ20 := hZ20.below (show Below _ _ w21 by (repeat first|exact J0|assumption|(apply J1;assumption)|apply J2|apply J3|apply J4))
    replace fhZ20 := hZ20.facts
    replace hS12 := hS12.below (show Below _ _ w21 by (repeat first|exact J0|assumption|(apply J1;assumption)|apply J2|apply J3|apply J4))
    replace fhS12 := hS12.facts
    have hK := Blk.new w21 104 #[.int .i64 x0, .int .i64 x1, .int .i64 x2, .int .i64 x3, .int .i64 X1, .int .i64 y2, .int .i64 X2, .int .i64 y3]
    go_upto_region 8 with fail
    obtain ⟨w22, hw22⟩ : ∃ X, w21.alloc (.cells #[.int .i64 x0, .int .i64 x1, .int .i64 x2, .int .i64 x3, .int .i64 X1, .int .i64 y2, .int .i64 X2, .int .i64 y3] 104) = X := ⟨_, rfl⟩
    have hb22 : Below w21.heap.size w21 w22 := by rw [← hw22]; exact bl_alloc bl_refl _
    rw [hw22] at hK ⊢
    obtain ⟨gk, hgk⟩ : ∃ X, w21.heap.size = X := ⟨_, rfl⟩
    have hx22 : Below w20.heap.size w20 w22 := bl_then hb22 hb21
    have hP22 := hP20.below hb22
    have hZ22 := hZ20.below hb22
    have hS22 := hS12.below hb22
    have rl22 := rl20.below hx22
    have rr22 := rr20.below hx22
    have hu1b := hu1.below hx22
    have hu2b := hu2.below hx22
    have hW22 := bl_then hx22 hW20
    have hz22 := hx22.size
    rw [hgk] at hK ⊢
    obtain ⟨A21, c21, hrun1, hs1⟩ := slice_fromR rl22 hl2 hm2 hi3
    obtain ⟨A22, c22, hrun2, hs2⟩ := slice_fromR rr22 hl3 hm3 hk3
    clear hw22 hgk hP20 hZ20 hS12 rl20 rr20 hu1 hu2 hb21 hb22 hx22 hW20 rl22 rr22
    have fP22 := hP22.facts
    have fS22 := hS22.facts
    have fK := hK.facts
    refine wp_region_ords [0, 1, 2, 3, 4, 5, 6, 7, 8, 9, 10, 11, 12, 13, 15, 16, 17] [(14, false), (18, false), (19, false)] [20, 21, 22] (by kernel_rfl) (by kernel_rfl) (fun d _ _ _ _ h => by cases d <;> exact h) ?_
    simp only [List.map_cons, List.map_nil, List.getD_cons_zero, List.getD_cons_succ]
    repeat (go_big_quiet_step (fail))
    refine wpQuiet_nil ?_
    refine wpMid_run rfl (fun K hK => ?_)
    go_simp
    refine (pB1 _ _ (hs1.below (by (repeat first|exact J0|assumption|(apply J1;assumption)|apply J2|apply J3|apply J4)))).mono ?_
    rintro e w26 ⟨v26, rfl, hO26, hb26⟩
    refine hK _ _ (by (repeat first|exact J0|assumption|(apply J1;assumption)|apply J2|apply J3|apply J4)) ?_
    clear hK K
    have hP22_w26 := hP22.below (show Below _ _ w26 by (repeat first|exact J0|assumption|(apply J1;assumption)|apply J2|apply J3|apply J4))
    have fhP22_w26 := hP22_w26.facts
    have hZ22_w26 := hZ22.below (show Below _ _ w26 by (repeat first|exact J0|assumption|(apply J1;assumption)|apply J2|apply J3|apply J4))
    have fhZ22_w26 := hZ22_w26.facts
    obtain ⟨A26, c26, rfl⟩ := hO26.shape
    refine wpMid_run rfl (fun K hK => ?_)
    go_simp
    refine (pB2 _ _ (hs2.below (by (repeat first|exact J0|assumption|(apply J1;assumption)|apply J2|apply J3|apply J4)))).mono ?_
    rintro e w27 ⟨v27, rfl, hO27, hb27⟩
    refine hK _ _ (by (repeat first|exact J0|assumption|(apply J1;assumption)|apply J2|apply J3|apply J4)) ?_
    clear hK K
    have hP22_w27 := hP22.below (show Below _ _ w27 by (repeat first|exact J0|assumption|(apply J1;assumption)|apply J2|apply J3|apply J4))
    have fhP22_w27 := hP22_w27.facts
    have hZ22_w27 := hZ22.below (show Below _ _ w27 by (repeat first|exact J0|assumption|(apply J1;assumption)|apply J2|apply J3|apply J4))
    have fhZ22_w27 := hZ22_w27.facts
    obtain ⟨A27, c27, rfl⟩ := hO27.shape
    refine wpMid_run rfl (fun K hK => ?_)
    go_simp
    refine hK _ _ (by (repeat first|exact J0|assumption|(apply J1;assumption)|apply J2|apply J3|apply J4)) ?_
    clear hK K
    refine wpMid_nil ?_
    have hx27 : Below w22.heap.size w22 w27 := by (repeat first|exact J0|assumption|(apply J1;assumption)|apply J2|apply J3|apply J4)
    have o26 := hO26.below (show Below w26.heap.size w26 w27 by (repeat first|exact J0|assumption|(apply J1;assumption)|apply J2|apply J3|apply J4))
    have hz26 : w22.heap.size ≤ w26.heap.size := Below.size (by (repeat first|exact J0|assumption|(apply J1;assumption)|apply J2|apply J3|apply J4))
    have hW27 := bl_then hx27 hW22
    have hu1c := hu1b.below hx27
    have hu2c := hu2b.below hx27
    go_wp2_with (refine wpList_store_blk hZ22_w27 rfl _ _ _ rfl rfl rfl (by rfl) (by kernel_rfl) (by kernel_rfl) ?_; intro w12 hZ12 hc12; have f12 := hZ12.facts)
    refine bodyPost_ret (v := .tuple #[.agg #[.string ⟨p.1.toArray⟩, .int .i64 p.2.1, .slice A7 l1.length c7, .slice A8 l2.length c8, .string ⟨p.1.toArray⟩, .int .i64 ((X2 - X1).tdiv 2), .slice A26 l3.length c26, .slice A27 l4.length c27], .bool true]) (by simp [results, Tryz.results46, go_sem, f12]) rfl ?_
    exact ⟨_, _, _, _, rfl, (hu1c.chg hc12 (by simp; omega)).base_mono (by omega), (hu2c.chg hc12 (by simp; omega)).base_mono (by omega), (o26.chg hc12 (by simp; omega)).base_mono (by simp; omega), (hO27.chg hc12 (by simp; omega)).base_mono (by omega), chg_bl hW27 hc12 (by omega)⟩
end Go.Proofs.YthkjgcldolnjaaaGreatDoor

/- A panel handed back is the expected one, walked. Conditions: bounds. -/
namespace Go.Proofs.YthkjgcldolnjaaaGreatDoor
open Go.RowKit Go.ChangeMaps
set_option maxHeartbeats 4000000
set_option maxRecDepth 100000

attribute [local go_sem] Oper.semAt_some
/-! # A panel handed back is the expected one: the law's helpers -/
theorem eqP_refl (p : Pan) : eqP p p = true := by unfold eqP; simp
theorem lfst_any (l : List Int) (A : Option Addr) (c : Nat) (w : World) (hl : l.length ≤ maxLen) (h : Rd ic 1 w A l) : Calls Tryz.prog 35 #[.slice A l.length c] w (RV w (.int .i64 (firstI l))) := by
  go_enter Tryz.func35, Tryz.ntmps35
  go_wp2_with (go_at_call 66; refine (rfirst_any l A c _ hl h).mono ?_; rintro e w1 ⟨rfl, hb1⟩)
  go_ret
  exact ⟨rfl, by (repeat first|exact J0|assumption|(apply J1;assumption)|apply J2|apply J3|apply J4)⟩
theorem lwhn_any (b : Bool) (n : Int) (w : World) : Calls Tryz.prog 36 #[.bool b, .int .i64 n] w (RV w (.int .i64 (whenI b n))) := by
  cases b
  all_goals
    go_enter Tryz.func36, Tryz.ntmps36
    go_wp2
    go_ret
    exact ⟨rfl, bl_refl⟩
/-! ## the reference's Stack -/
end Go.Proofs.YthkjgcldolnjaaaGreatDoor
