/- The reference: corners, places, walked. Conditions: the panel is valid. -/
import Derived.Test.YtpcgeihemkhkjaaGreatDoorS22
import Derived.Test.YtpcgeihemkhkjaaGreatDoorS17
import Derived.Test.YtpcgeihemkhkjaaGreatDoorS20
import Derived.Test.YtpcgeihemkhkjaaGreatDoorS21
import Derived.Test.YtpcgeihemkhkjaaGreatDoorS04
import Derived.Test.YtpcgeihemkhkjaaGreatDoorS05
import Derived.LoopNIn
import Derived.Test.YtpcgeihemkhkjaaGreatDoorS10
namespace Go.Proofs.YtpcgeihemkhkjaaGreatDoor
open Go.RowKit Go.ChangeMaps
set_option maxHeartbeats 4000000
set_option maxRecDepth 100000
attribute [local go_sem] Oper.semAt_some
theorem Zi5 {vL vR : Value} (p : Pan) (w : World) (hL : SlE w vL p.2.2.1) (hR : SlE w vR p.2.2.2) (hok : Zas p) :
  Calls Tryz.prog 140 #[.agg #[sV p.1, .int .i64 p.2.1, vL, vR]] w (RV w (.agg (Ze4 p))) := by
 have hw0 : 0 ≤ p.2.1 ∧ p.2.1 ≤ 128 := ⟨by have := hok.wid.1; omega, hok.wid.2⟩
 have o1 := fun W (hb : Below w.heap.size w W) => Zcq p false W (hL.below hb) (hR.below hb) hok.left hok.right hw0
 have o2 := fun W (hb : Below w.heap.size w W) => Zcq p true W (hL.below hb) (hR.below hb) hok.left hok.right hw0
 have l1 : (outP p false).length = (stpL (Z33 p false)).length + 1 := Z2p _ _ _
 have l2 : (outP p true).length = (stpL (Z33 p true)).length + 1 := Z2p _ _ _
 have h1 := Ze5 p false
 have h2 := Ze5 p true
 have e1 := Zao p false
 have e2 := Zao p true
 simp only [Z33, Bool.false_eq_true, if_false, if_true] at e1 e2 l1 l2
 have HC : Hid (Ze4 p = #[.int .i64 (Z34 p false).1, .int .i64 (Z34 p false).2, .int .i64 (Z34 p true).1, .int .i64 (Z34 p true).2,
  .int .i64 (posK false (Z34 p false) (stpL p.2.2.1)).1, .int .i64 (posK false (Z34 p false) (stpL p.2.2.1)).2, .int .i64 (posK true (Z34 p true) (stpL p.2.2.2)).1, .int .i64 (posK true (Z34 p true) (stpL p.2.2.2)).2]) := rfl
 obtain ⟨C, hC⟩ : ∃ C, Ze4 p = C := ⟨_, rfl⟩
 rw [hC] at HC ⊢
 clear hC
 obtain ⟨⟨x1, y1⟩, hk1⟩ : ∃ z, posK false (Z34 p false) (stpL p.2.2.1) = z := ⟨_, rfl⟩
 obtain ⟨⟨x2, y2⟩, hk2⟩ : ∃ z, posK true (Z34 p true) (stpL p.2.2.2) = z := ⟨_, rfl⟩
 rw [hk1] at e1 HC
 rw [hk2] at e2 HC
 clear hk1 hk2
 obtain ⟨⟨a1, b1⟩, hk1⟩ : ∃ z, Z34 p false = z := ⟨_, rfl⟩
 obtain ⟨⟨a2, b2⟩, hk2⟩ : ∃ z, Z34 p true = z := ⟨_, rfl⟩
 rw [hk1] at h1 HC
 rw [hk2] at h2 HC
 clear hk1 hk2
 obtain ⟨n1, hn1⟩ : ∃ n, (stpL p.2.2.1).length = n := ⟨_, rfl⟩
 obtain ⟨n2, hn2⟩ : ∃ n, (stpL p.2.2.2).length = n := ⟨_, rfl⟩
 have hs1 : n1 ≤ 512 := by rw [← hn1]; exact hok.left.len
 have hs2 : n2 ≤ 512 := by rw [← hn2]; exact hok.right.len
 rw [hn1] at l1
 rw [hn2] at l2
 clear hn1 hn2
 obtain ⟨O1, hO1⟩ : ∃ O, outP p false = O := ⟨_, rfl⟩
 obtain ⟨O2, hO2⟩ : ∃ O, outP p true = O := ⟨_, rfl⟩
 rw [hO1] at o1 l1 h1 e1
 rw [hO2] at o2 l2 h2 e2
 clear hO1 hO2
 rw [l1, Nat.add_sub_cancel] at e1
 rw [l2, Nat.add_sub_cancel] at e2
 have HH1 := Lib.hid h1
 have HH2 := Lib.hid h2
 have HE1 := Lib.hid e1
 have HE2 := Lib.hid e2
 have HL1 := Lib.hid l1
 have HL2 := Lib.hid l2
 clear h1 h2 e1 e2 l1 l2
 obtain ⟨AL, cL, rfl, _, _, _⟩ := hL
 obtain ⟨AR, cR, rfl, _, _, _⟩ := hR
 unfold sV at o1 o2 ⊢
 have hP := (Blk.new w 86 #[.string ⟨p.1.toArray⟩, .int .i64 p.2.1, .slice AL p.2.2.1.length cL, .slice AR p.2.2.2.length cR]).alloc (.cells #[.int .i64 0, .int .i64 0, .int .i64 0, .int .i64 0, .int .i64 0, .int .i64 0, .int .i64 0, .int .i64 0] 212)
 have hZ := Blk.new1 w (.cells #[.string ⟨p.1.toArray⟩, .int .i64 p.2.1, .slice AL p.2.2.1.length cL, .slice AR p.2.2.2.length cR] 86) 212 #[.int .i64 0, .int .i64 0, .int .i64 0, .int .i64 0, .int .i64 0, .int .i64 0, .int .i64 0, .int .i64 0]
 clear hok hw0
 go_enter Tryz.func140, Tryz.ntmps140
 go_upto_region 1 with fail
 obtain ⟨w1, hw1⟩ : ∃ X, (w.alloc (.cells #[.string ⟨p.1.toArray⟩, .int .i64 p.2.1, .slice AL p.2.2.1.length cL, .slice AR p.2.2.2.length cR] 86)).alloc (.cells #[.int .i64 0, .int .i64 0, .int .i64 0, .int .i64 0, .int .i64 0, .int .i64 0, .int .i64 0, .int .i64 0] 212) = X := ⟨_, rfl⟩
 have hb1 : Below w.heap.size w w1 := by rw [← hw1]; exact Z04 (Z04 Z03 _) _
 rw [hw1] at hP hZ ⊢
 clear hw1
 have fhP := hP.facts
 refine Z0z [0, 2] [(1, false)] [3, 4, 5] (by kernel_rfl) (by kernel_rfl) (fun d _ _ _ _ h => by cases d <;> exact h) ?_
 simp only [List.map_cons, List.map_nil, List.getD_cons_zero, List.getD_cons_succ]
 repeat (go_big_quiet_step (fail))
 refine wpQuiet_nil ?_
 refine Z11 rfl (fun K hK => ?_)
 go_simp
 refine (o1 _ (by (repeat first|exact J0|assumption|(apply J1;assumption)|apply J2|apply J3|apply J4))).mono ?_
 rintro e w8 ⟨v8, rfl, hO8, hb8⟩
 refine hK _ _ (by (repeat first|exact J0|assumption|(apply J1;assumption)|apply J2|apply J3|apply J4)) ?_
 clear hK K
 have hP_w8 := hP.below (show Below _ _ w8 by (repeat first|exact J0|assumption|(apply J1;assumption)|apply J2|apply J3|apply J4))
 have fhP_w8 := hP_w8.facts
 refine Z10 ?_
 go_wp2_with (go_at_call 138; refine (o2 _ (by (repeat first|exact J0|assumption|(apply J1;assumption)|apply J2|apply J3|apply J4))).mono ?_; rintro e w9 ⟨v9, rfl, hO9, hb9⟩)
 obtain ⟨A8, c8, rfl⟩ := hO8.shape
 obtain ⟨_, _, he8, hlc8, hcm8, hr8⟩ := hO8.rd Z21
 obtain ⟨rfl, rfl⟩ : A8 = _ ∧ c8 = _ := by simpa using he8
 obtain ⟨A9, c9, rfl⟩ := hO9.shape
 obtain ⟨_, _, he9, hlc9, hcm9, hr9⟩ := hO9.rd Z21
 obtain ⟨rfl, rfl⟩ : A9 = _ ∧ c9 = _ := by simpa using he9
 have hb19 : Below w1.heap.size w1 w9 := by (repeat first|exact J0|assumption|(apply J1;assumption)|apply J2|apply J3|apply J4)
 have hbw9 : Below w.heap.size w w9 := Z08 hb19 hb1
 have hZ9 := hZ.below hb19
 replace hr8 := hr8.below (show Below w8.heap.size w8 w9 by (repeat first|exact J0|assumption|(apply J1;assumption)|apply J2|apply J3|apply J4))
 obtain ⟨s8, o8, hA8, hl8, p8, q8⟩ := hr8.knot (k := 0) (by have := HL1.out; omega)
 obtain ⟨s9, o9, hA9, hl9, p9, q9⟩ := hr9.knot (k := 0) (by have := HL2.out; omega)
 obtain ⟨s8', o8', hA8', _, P8, Q8⟩ := hr8.knot (k := n1) (by have := HL1.out; omega)
 obtain ⟨s9', o9', hA9', _, P9, Q9⟩ := hr9.knot (k := n2) (by have := HL2.out; omega)
 subst hA8 hA9
 obtain ⟨rfl, rfl⟩ : s8 = s8' ∧ o8 = o8' := by simpa using hA8'
 obtain ⟨rfl, rfl⟩ : s9 = s9' ∧ o9 = o9' := by simpa using hA9'
 rw [(List.getElem?_eq_some_iff.1 HH1.out).2] at p8 q8
 rw [(List.getElem?_eq_some_iff.1 HH2.out).2] at p9 q9
 rw [(List.getElem?_eq_some_iff.1 HE1.out).2] at P8 Q8
 rw [(List.getElem?_eq_some_iff.1 HE2.out).2] at P9 Q9
 simp only [Nat.zero_mul, Nat.add_zero] at p8 q8 p9 q9 P8 Q8 P9 Q9
 rw [HL1.out, HL2.out]
 have ee1 : (((n1 + 1 : Nat) : Int) - 1) = (n1 : Int) := by omega
 have ee2 : (((n2 + 1 : Nat) : Int) - 1) = (n2 : Int) := by omega
 clear he8 he9 hO8 hO9 hb8 hb9 hP fhP hP_w8 fhP_w8 o1 o2 hZ hb19 hb1 hA8' hA9' hlc8 hcm8 hlc9 hcm9 hr8 hr9
 go_upto_region 2 with fail
 refine Z0z [0, 1, 2, 3, 4, 5, 6, 7, 8, 9, 10, 11, 12, 13, 14, 15, 16, 17, 18] [] [19] (by kernel_rfl) (by kernel_rfl) (fun d _ _ _ _ h => by cases d <;> exact h) ?_
 simp only [List.map_cons, List.map_nil, List.getD_cons_zero, List.getD_cons_succ]
 repeat (go_big_quiet_step (fail))
 refine wpQuiet_nil ?_
 refine Z10 ?_
 go_wp2_with (refine Z4n (hZ9.drew) rfl _ _ _ rfl rfl rfl (by rfl) (by kernel_rfl) (by kernel_rfl) ?_; intro w12 hZ12 hc12; have f12 := hZ12.facts)
 refine bodyPost_ret (v := .agg #[.int .i64 a1, .int .i64 b1, .int .i64 a2, .int .i64 b2, .int .i64 x1, .int .i64 y1, .int .i64 x2, .int .i64 y2]) (by simp [results, Tryz.results140, go_sem, f12]) rfl ?_
 exact ⟨by rw [HC.out], Z9f (by (repeat first|exact J0|assumption|(apply J1;assumption)|apply J2|apply J3|apply J4)) hc12 (by omega)⟩
theorem Zi6 {l : List Knot} {j : Nat} (hj : j + 1 < l.length) (y : Int) : Z6x y l[j] (l.drop (j + 1)) = if l[j].2 ≤ y ∧ y < l[j + 1].2 then (if l[j + 1].2 = l[j].2 + 1 then (l[j].1, l[j + 1].1) else (l[j + 1].1, l[j + 1].1)) else Z6x y l[j + 1] (l.drop (j + 1 + 1)) := by
 rw [List.drop_eq_getElem_cons hj, Z6x]
theorem Zi7 {v : Value} (l : List Knot) (y : Int) (w : World) (h : SlK w v l) (hne : 0 < l.length) (hlen : l.length ≤ 100000) (hy : ∀ k ∈ l, -100000 ≤ k.2 ∧ k.2 ≤ 100000) :
    Calls Tryz.prog 196 #[v, .int .i64 y] w (RV w (.agg #[.int .i64 (plcI l y).1, .int .i64 (plcI l y).2])) := by
  obtain ⟨A, c, rfl, hlc, hcm, hr⟩ := h; have hN := Blk.new w 119 #[.int .i64 0, .int .i64 0]
  have hb1 : Below w.heap.size w (w.alloc (.cells #[.int .i64 0, .int .i64 0] 119)) := Z04 Z03 _
  have HI : Hid (plcI l y = Z6x y (l[0]'hne) (l.drop (0 + 1))) := by
    unfold Hid; cases l with
    | nil => simp at hne
    | cons k r => rfl
  obtain ⟨⟨RX, RY⟩, hR⟩ : ∃ z, plcI l y = z := ⟨_, rfl⟩
  rw [hR] at HI ⊢; clear hR; go_enter Tryz.func196, Tryz.ntmps196
  go_wp2; obtain ⟨w1, hw1⟩ : ∃ X, w.alloc (.cells #[.int .i64 0, .int .i64 0] 119) = X := ⟨_, rfl⟩
  rw [hw1] at hN hb1 ⊢; clear hw1; go_loopw [5] (fun i wr => ∃ j : Nat, ∃ hj : j < l.length, i = .int .i64 ((j + 1 : Nat) : Int) ∧ Hid ((RX, RY) = Z6x y l[j] (l.drop (j + 1))) ∧ Below w1.heap.size w1 wr) (fun i _ => l.length + 1 - (intOf i).toNat)
  case atStart => exact ⟨0, hne, rfl, HI, by (repeat first|exact J0|assumption|(apply J1;assumption)|apply J2|apply J3|apply J4)⟩
  case round =>
    obtain ⟨j, hj, rfl, H, hbw⟩ := hrel; obtain ⟨wo, rfl⟩ : ∃ x, x = wr := ⟨_, rfl⟩
    have hN2 := hN.below hbw
    have e3 : (((j + 1 : Nat) : Int) - 1) = (j : Int) := by omega
    by_cases hlt : j + 1 < l.length
    · obtain ⟨b, off, rfl, hb, p0, p1⟩ := ((hr.below hb1).below hbw).knot hj
      obtain ⟨b', off', hA2, _, e0, e1⟩ := ((hr.below hb1).below hbw).knot hlt
      obtain ⟨rfl, rfl⟩ : b = b' ∧ off = off' := by simpa using hA2
      have HA := Lib.hid (Zi6 hlt y)
      have hy1 := hy _ (List.getElem_mem hj)
      obtain ⟨⟨X, Y⟩, hX⟩ : ∃ z, l[j + 1] = z := ⟨_, rfl⟩
      obtain ⟨⟨PX, PY⟩, hPX⟩ : ∃ z, l[j] = z := ⟨_, rfl⟩
      have HX := Lib.hid hX
      rw [hX] at e0 e1 HA; rw [hPX] at p0 p1 HA H hy1; simp only at e0 e1 p0 p1 hy1
      clear hX hPX hA2; by_cases h2 : PY ≤ y
      · have t2 : (PY ≤ y) = True := eq_true h2
        by_cases h3 : y < Y
        · have t3 : (y < Y) = True := eq_true h3
          have H2 : Hid ((RX, RY) = if Y = PY + 1 then (PX, X) else (X, X)) := by unfold Hid; rw [H.out, HA.out, if_pos ⟨h2, h3⟩]
          clear HA h2 h3; by_cases h4 : Y = PY + 1
          · have H3 : Hid (RX = PX ∧ RY = X) := by have := H2.out; rw [if_pos h4] at this; simpa [Hid] using this
            subst h4; go_upto_region 5 with fail; refine Z0z [0, 1, 2, 3, 4, 5, 6, 7, 8, 9, 10, 11, 12] [] [] (by kernel_rfl) (by kernel_rfl) (fun d _ _ _ _ h => by cases d <;> exact h) ?_
            simp only [List.map_cons, List.map_nil, List.getD_cons_zero, List.getD_cons_succ]; repeat (go_big_quiet_step (fail))
            refine wpQuiet_nil ?_; refine Z10 ?_; go_upto_region 6 with fail; refine Z0z [0, 1, 2, 3, 4, 5, 6, 7, 8, 9, 10, 11] [] [12] (by kernel_rfl) (by kernel_rfl) (fun d _ _ _ _ h => by cases d <;> exact h) ?_
            simp only [List.map_cons, List.map_nil, List.getD_cons_zero, List.getD_cons_succ]; repeat (go_big_quiet_step (fail))
            refine wpQuiet_nil ?_; refine Z10 ?_; go_wp2_with (refine Z4n (hN2.drew.drew) rfl _ _ _ rfl rfl rfl (by rfl) (by kernel_rfl) (by kernel_rfl) ?_; intro w3 hN3 hc3; have fN3 := hN3.facts)
            have hb3 : Below w.heap.size w w3 := Z9f (by (repeat first|exact J0|assumption|(apply J1;assumption)|apply J2|apply J3|apply J4)) hc3 (Nat.le_refl _)
            refine bodyPost_ret (v := .agg #[.int .i64 PX, .int .i64 X]) (by simp [results, Tryz.results196, go_sem, fN3]) rfl ?_
            exact ⟨by rw [H3.out.1, H3.out.2], hb3⟩
          · have t4 : (Y == PY + 1) = false := beq_false_of_ne h4
            have H3 : Hid (RX = X ∧ RY = X) := by have := H2.out; rw [if_neg h4] at this; simpa [Hid] using this
            go_upto_region 5 with fail; refine Z0z [0, 1, 2, 3, 4, 5, 6, 7, 8, 9, 10, 11, 12] [] [] (by kernel_rfl) (by kernel_rfl) (fun d _ _ _ _ h => by cases d <;> exact h) ?_
            simp only [List.map_cons, List.map_nil, List.getD_cons_zero, List.getD_cons_succ]; repeat (go_big_quiet_step (fail))
            refine wpQuiet_nil ?_; refine Z10 ?_; go_upto_region 7 with fail; refine Z0z [0, 1, 2, 3, 4, 5, 6, 7, 8, 9, 10] [] [11] (by kernel_rfl) (by kernel_rfl) (fun d _ _ _ _ h => by cases d <;> exact h) ?_
            simp only [List.map_cons, List.map_nil, List.getD_cons_zero, List.getD_cons_succ]; repeat (go_big_quiet_step (fail))
            refine wpQuiet_nil ?_; refine Z10 ?_; go_wp2_with (refine Z4n (hN2.drew.drew) rfl _ _ _ rfl rfl rfl (by rfl) (by kernel_rfl) (by kernel_rfl) ?_; intro w3 hN3 hc3; have fN3 := hN3.facts)
            have hb3 : Below w.heap.size w w3 := Z9f (by (repeat first|exact J0|assumption|(apply J1;assumption)|apply J2|apply J3|apply J4)) hc3 (Nat.le_refl _)
            refine bodyPost_ret (v := .agg #[.int .i64 X, .int .i64 X]) (by simp [results, Tryz.results196, go_sem, fN3]) rfl ?_
            exact ⟨by rw [H3.out.1, H3.out.2], hb3⟩
        · have t3 : (y < Y) = False := eq_false h3
          have H2 : Hid ((RX, RY) = Z6x y l[j + 1] (l.drop (j + 1 + 1))) := by unfold Hid; rw [H.out, HA.out, if_neg (fun h => h3 h.2), HX.out]
          clear HA h2 h3; go_wp2; go_roundw; case rel => exact ⟨j + 1, hlt, by go_num, H2.out, hbw⟩
          case measure => simp [intOf]; omega
      · have t2 : (PY ≤ y) = False := eq_false h2
        have H2 : Hid ((RX, RY) = Z6x y l[j + 1] (l.drop (j + 1 + 1))) := by unfold Hid; rw [H.out, HA.out, if_neg (fun h => h2 h.1), HX.out]
        clear HA h2; go_wp2; go_roundw; case rel => exact ⟨j + 1, hlt, by go_num, H2.out, hbw⟩
        case measure => simp [intOf]; omega
    · have H2 : Hid (RX = 0 ∧ RY = 0) := by
        have := H.out
        rw [List.drop_eq_nil_of_le (by omega), Z6x] at this
        simpa [Hid] using this
      go_wp2_with (refine Z4n hN2 rfl _ _ _ rfl rfl rfl (by rfl) (by kernel_rfl) (by kernel_rfl) ?_; intro w3 hN3 hc3; have fN3 := hN3.facts)
      have hb3 : Below w.heap.size w w3 := Z9f (by (repeat first|exact J0|assumption|(apply J1;assumption)|apply J2|apply J3|apply J4)) hc3 (Nat.le_refl _)
      refine bodyPost_ret (v := .agg #[.int .i64 0, .int .i64 0]) (by simp [results, Tryz.results196, go_sem, fN3]) rfl ?_
      exact ⟨by rw [H2.out.1, H2.out.2], hb3⟩
theorem Zi8 (s : List UInt8) (i : Nat) (h : i < s.length) : ({ data := s.toArray } : ByteArray).extract i (i + 1) = { data := #[s[i]] } := by
 rw [ByteArray.extract_mk]
 congr 1
 apply Array.ext'
 simp
 rw [List.drop_eq_getElem_cons h, List.take_succ_cons, List.take_zero]
theorem revT (s : List UInt8) (j : Nat) (h : j < s.length) : s.reverse.take (j + 1) = s.reverse.take j ++ [s[s.length - 1 - j]'(by omega)] := by
 rw [List.take_succ_eq_append_getElem (by simpa using h), List.getElem_reverse]
theorem oppT (l : List Edg) (j : Nat) (h : j < l.length) : (l.reverse.take (j + 1)).map oppE = (l.reverse.take j).map oppE ++ [oppE (l[l.length - 1 - j]'(by omega))] := by
 rw [List.take_succ_eq_append_getElem (by simpa using h), List.getElem_reverse, List.map_append]
 rfl
theorem Zi9 {v : Value} (l : List Edg) (w : World) (h : SlE w v l) (hlen : l.length ≤ 1000) (hw : ∀ e ∈ l, e.1.length ≤ 1000) :
  Calls Tryz.prog 141 #[v] w (RG ec 3 132 w (oppL l)) := by
 obtain ⟨A, c, rfl, _, _, hr⟩ := h
 have HO : Hid (oppL l = (l.reverse.take l.length).map oppE) := by unfold Hid oppL; rw [← List.length_reverse, List.take_length]
 have HW := Lib.hid hw
 clear hw
 go_enter Tryz.func141, Tryz.ntmps141
 go_wp2
 go_loopw [3, 4] (fun s3 s4 wr => ∃ k : Nat, k ≤ l.length ∧ s4 = .int .i64 ((l.length : Int) - 1 - k) ∧ Own ec 3 w.heap.size 132 wr s3 ((l.reverse.take k).map oppE) ∧ Below w.heap.size w wr) (fun _ s4 _ => (intOf s4 + 1).toNat)
 case atStart => exact ⟨0, Nat.zero_le _, by simp, Own.nil_, Z03⟩
 case round =>
  obtain ⟨k, hk, rfl, hO, hbk⟩ := hrel; obtain ⟨wo, rfl⟩ : ∃ x, x = wr := ⟨_, rfl⟩
  obtain ⟨i, hi⟩ : ∃ i : Int, (l.length : Int) - 1 - k = i := ⟨_, rfl⟩
  have HI := Lib.hid hi
  rw [hi]; by_cases hlt : k < l.length
  ·obtain ⟨n, hn⟩ : ∃ n : Nat, l.length - 1 - k = n := ⟨_, rfl⟩
   have hnl : n < l.length := by omega
   obtain rfl : i = n := by omega
   have ti : (0 ≤ (n : Int)) = True := eq_true (by omega)
   obtain ⟨b, off, rfl, hb, e0, e1, e2⟩ := (hr.below hbk).edge hnl
   have HT := Lib.hid (oppT l k hlt)
   have hT := HT.out
   simp only [hn] at hT; have hwn := HW.out _ (List.getElem_mem hnl)
   obtain ⟨⟨s, t, o⟩, hx⟩ : ∃ z, l[n] = z := ⟨_, rfl⟩
   rw [hx] at e0 e1 e2 hT hwn; have HT2 := Lib.hid hT
   simp only at e0 e1 e2 hwn
   clear hT HT hx hi; obtain ⟨M, hM⟩ : ∃ M, (l.reverse.take k).map oppE = M := ⟨_, rfl⟩
   have hMl : M.length ≤ 1000 := by rw [← hM]; simp; omega
   rw [hM] at hO HT2; clear hM; obtain ⟨Ao, co, rfl⟩ := hO.shape; have hsz : ({ data := s.toArray } : ByteArray).size = s.length := rfl
   go_wp2; go_loopw [5, 6] (fun s5 s6 wr => ∃ j : Nat, j ≤ s.length ∧ s6 = .int .i64 ((s.length : Int) - 1 - j) ∧ s5 = sV (s.reverse.take j) ∧ wr = wo) (fun _ s6 _ => (intOf s6 + 1).toNat)
   case atStart => exact ⟨0, Nat.zero_le _, by simp, rfl, rfl⟩
   case round =>
    obtain ⟨j, hj, rfl, rfl, hwr⟩ := hrel; obtain ⟨wi, rfl⟩ : ∃ x, x = wr := ⟨_, rfl⟩
    subst hwr; obtain ⟨q, hq⟩ : ∃ q : Int, (s.length : Int) - 1 - j = q := ⟨_, rfl⟩
    have HQ := Lib.hid hq
    rw [hq]; by_cases hlj : j < s.length
    ·obtain ⟨m, hm⟩ : ∃ m : Nat, s.length - 1 - j = m := ⟨_, rfl⟩
     have hms : m < s.length := by omega
     obtain rfl : q = m := by omega
     have tq : (0 ≤ (m : Int)) = True := eq_true (by omega)
     have hR := revT s j hlj
     simp only [hm] at hR; have hbt := Zi8 s m hms
     have hap := Zi3 (s.reverse.take j) s[m]
     rw [← hR] at hap; obtain ⟨cc, hcc⟩ : ∃ cc, s[m] = cc := ⟨_, rfl⟩
     rw [hcc] at hbt hap; obtain ⟨R, hRR⟩ : ∃ R, s.reverse.take j = R := ⟨_, rfl⟩
     have hRl : R.length ≤ 1000 := by rw [← hRR]; simp; omega
     obtain ⟨R2, hR2⟩ : ∃ R, s.reverse.take (j + 1) = R := ⟨_, rfl⟩
     rw [hR2] at hap; rw [hRR] at hap ⊢; have HR2 := Lib.hid hR2
     have hs1 : ({ data := #[cc] } : ByteArray).size = 1 := rfl
     have hsR : ({ data := R.toArray } : ByteArray).size = R.length := rfl
     have hlim : (9223372036854775807 < R.length + 1) = False := eq_false (by omega)
     unfold sV; clear hq hR hcc hRR hR2; go_wp2; go_roundw; case rel => exact ⟨j + 1, by omega, congrArg (Value.int .i64) (by have := HQ.out; push_cast; omega), by rw [HR2.out], trivial⟩
     case measure => simp [intOf]
    ·obtain rfl : j = s.length := by omega
     have tq : (0 ≤ q) = False := eq_false (by omega)
     have hE : s.reverse.take s.length = s.reverse := by rw [← List.length_reverse, List.take_length]
     rw [hE]; clear hE hq; obtain ⟨SR, hSR⟩ : ∃ z, s.reverse = z := ⟨_, rfl⟩
     have HOE : Hid (oppE (s, t, o) = (SR, t, !o)) := by unfold Hid; rw [← hSR]; rfl
     rw [hSR]; clear hSR; unfold sV; have hu := (Sl.oneG (enc := ec) (sz := 3) wi 132 (SR, t, !o) #[.string ⟨SR.toArray⟩, .int .i64 t, .bool (!o)] rfl).drew
     have hal : Below wi.heap.size wi (wi.alloc (.cells #[.string ⟨SR.toArray⟩, .int .i64 t, .bool (!o)] 132)) := Z04 Z03 _
     have hsz2 := hbk.size
     have hwz := hal.size
     have hOa := (hO.alloc (.cells #[.string ⟨SR.toArray⟩, .int .i64 t, .bool (!o)] 132)).drew
     go_upto_region 10 with fail; refine Z0z [0, 1, 2, 3, 4, 5, 6, 7, 8, 9, 10, 11, 12, 13] [(14, false)] [15, 16] (by kernel_rfl) (by kernel_rfl) (fun d _ _ _ _ h => by cases d <;> exact h) ?_
     simp only [List.map_cons, List.map_nil, List.getD_cons_zero, List.getD_cons_succ]; repeat (go_big_quiet_step (fail))
     refine wpQuiet_nil ?_; refine Z11 rfl (fun K hK => ?_); go_simp; refine hK _ _ (by (repeat first|exact J0|assumption|(apply J1;assumption)|apply J2|apply J3|apply J4)) ?_
     clear hK K; refine Z10 ?_; go_wp2_with (at_builtin; refine Z3y rfl Z8p Z8i Z8l _ _ rfl w.heap.size _ _ _ [(SR, t, !o)] rfl rfl hOa hu (by simp [maxLen]; omega) (by simp; omega) (by simp; omega) ?_; intro v3 w3 hu3 hgr3)
     have hb3 : Below w.heap.size w w3 := Z09 hgr3 (Z05 (Z04 hbk _)) (fun j e => (hO.lt j e).1)
     rw [← HOE.out, ← HT2.out] at hu3; go_wp2; go_roundw; case rel => exact ⟨k + 1, by omega, congrArg (Value.int .i64) (by have := HI.out; push_cast; omega), hu3, hb3⟩
     case measure => simp [intOf]
  ·obtain rfl : k = l.length := by omega
   have ti : (0 ≤ i) = False := eq_false (by omega)
   rw [← HO.out] at hO; clear hi; go_wp2; go_ret; exact ⟨_, rfl, hO, hbk⟩
theorem Zia {vL vR : Value} (p : Pan) (w : World) (hL : SlE w vL p.2.2.1) (hR : SlE w vR p.2.2.2) (hok : Zas p) :
  Calls Tryz.prog 76 #[.agg #[sV p.1, .int .i64 p.2.1, vL, vR]] w (fun e w' => ∃ xL xR, e = .returned (.agg #[sV p.1, .int .i64 ((topX p true - topX p false).tdiv 2), xL, xR]) ∧ Own ec 3 w.heap.size 132 w' xL (oppL p.2.2.2) ∧ Own ec 3 w.heap.size 132 w' xR (oppL p.2.2.1) ∧ Below w.heap.size w w') := by
 have ll := hok.left.few
 have lr := hok.right.few
 have hcn := fun W (hb : Below w.heap.size w W) => Zi5 p W (hL.below hb) (hR.below hb) hok
 have cl := fun W (hb : Below w.heap.size w W) => Zi9 p.2.2.2 W (hR.below hb) (by omega) (Zgd hok.right)
 have cr := fun W (hb : Below w.heap.size w W) => Zi9 p.2.2.1 W (hL.below hb) (by omega) (Zgd hok.left)
 have hx1 := Zgc hok false
 have hx2 := Zgc hok true
 obtain ⟨x0, x1, x2, x3, y2, y3, hC⟩ : ∃ x0 x1 x2 x3 y2 y3 : Int, Ze4 p = #[.int .i64 x0, .int .i64 x1, .int .i64 x2, .int .i64 x3, .int .i64 (topX p false), .int .i64 y2, .int .i64 (topX p true), .int .i64 y3] := ⟨_, _, _, _, _, _, rfl⟩
 rw [hC] at hcn
 obtain ⟨X1, hX1⟩ : ∃ X, topX p false = X := ⟨_, rfl⟩
 obtain ⟨X2, hX2⟩ : ∃ X, topX p true = X := ⟨_, rfl⟩
 rw [hX1] at hcn hx1 ⊢
 rw [hX2] at hcn hx2 ⊢
 obtain ⟨AL, cL, rfl, _, _, _⟩ := hL
 obtain ⟨AR, cR, rfl, _, _, _⟩ := hR
 have hs : sV p.1 = .string ⟨p.1.toArray⟩ := rfl
 rw [hs] at hcn
 rw [hs]
 have hP := (Blk.new w 86 #[.string ⟨p.1.toArray⟩, .int .i64 p.2.1, .slice AL p.2.2.1.length cL, .slice AR p.2.2.2.length cR]).alloc (.cells Zg9 86)
 have hZ := Blk.new1 w (.cells #[.string ⟨p.1.toArray⟩, .int .i64 p.2.1, .slice AL p.2.2.1.length cL, .slice AR p.2.2.2.length cR] 86) 86 Zg9
 unfold Zg9 at hP hZ
 have fhP := hP.facts
 have fhZ := hZ.facts
 clear hs hX1 hX2 hC hok
 go_enter Tryz.func76, Tryz.ntmps76
 go_wp2_with fail
 refine (hcn _ (by (repeat first|exact J0|assumption|(apply J1;assumption)|apply J2|apply J3|apply J4))).mono ?_
 rintro e w3 ⟨rfl, hb3⟩
 replace hP := hP.below (show Below _ _ w3 by (repeat first|exact J0|assumption|(apply J1;assumption)|apply J2|apply J3|apply J4))
 replace fhP := hP.facts
 replace hZ := hZ.below (show Below _ _ w3 by (repeat first|exact J0|assumption|(apply J1;assumption)|apply J2|apply J3|apply J4))
 replace fhZ := hZ.facts
 have hK := Blk.new w3 212 #[.int .i64 x0, .int .i64 x1, .int .i64 x2, .int .i64 x3, .int .i64 X1, .int .i64 y2, .int .i64 X2, .int .i64 y3]
 replace hP := hP.alloc (.cells #[.int .i64 x0, .int .i64 x1, .int .i64 x2, .int .i64 x3, .int .i64 X1, .int .i64 y2, .int .i64 X2, .int .i64 y3] 212)
 replace hZ := hZ.alloc (.cells #[.int .i64 x0, .int .i64 x1, .int .i64 x2, .int .i64 x3, .int .i64 X1, .int .i64 y2, .int .i64 X2, .int .i64 y3] 212)
 have hbw4 : Below w.heap.size w (w3.alloc (.cells #[.int .i64 x0, .int .i64 x1, .int .i64 x2, .int .i64 x3, .int .i64 X1, .int .i64 y2, .int .i64 X2, .int .i64 y3] 212)) := by (repeat first|exact J0|assumption|(apply J1;assumption)|apply J2|apply J3|apply J4)
 go_upto_region 2 with fail
 obtain ⟨w4, hw4⟩ : ∃ X, w3.alloc (.cells #[.int .i64 x0, .int .i64 x1, .int .i64 x2, .int .i64 x3, .int .i64 X1, .int .i64 y2, .int .i64 X2, .int .i64 y3] 212) = X := ⟨_, rfl⟩
 obtain ⟨gk, hgk⟩ : ∃ X, w3.heap.size = X := ⟨_, rfl⟩
 rw [hw4] at hP hZ hbw4
 rw [hw4, hgk] at hK
 rw [hw4, hgk]
 clear hw4 hgk hcn hb3
 replace fhP := hP.facts
 replace fhZ := hZ.facts
 have fK := hK.facts
 refine Z0z [0, 1, 2, 3, 4, 5, 6, 7, 8, 9, 10, 11, 13, 14] [(12, false), (15, false)] [16, 17] (by kernel_rfl) (by kernel_rfl) (fun d _ _ _ _ h => by cases d <;> exact h) ?_
 simp only [List.map_cons, List.map_nil, List.getD_cons_zero, List.getD_cons_succ]
 repeat (go_big_quiet_step (fail))
 refine wpQuiet_nil ?_
 refine Z11 rfl (fun K hK => ?_)
 go_simp
 refine (cl _ (by (repeat first|exact J0|assumption|(apply J1;assumption)|apply J2|apply J3|apply J4))).mono ?_
 rintro e w5 ⟨v5, rfl, hO5, hb5⟩
 refine hK _ _ (by (repeat first|exact J0|assumption|(apply J1;assumption)|apply J2|apply J3|apply J4)) ?_
 clear hK K
 have hP_w5 := hP.below (show Below _ _ w5 by (repeat first|exact J0|assumption|(apply J1;assumption)|apply J2|apply J3|apply J4))
 have fhP_w5 := hP_w5.facts
 have hZ_w5 := hZ.below (show Below _ _ w5 by (repeat first|exact J0|assumption|(apply J1;assumption)|apply J2|apply J3|apply J4))
 have fhZ_w5 := hZ_w5.facts
 obtain ⟨A5, c5, rfl⟩ := hO5.shape
 refine Z11 rfl (fun K hK => ?_)
 go_simp
 refine (cr _ (by (repeat first|exact J0|assumption|(apply J1;assumption)|apply J2|apply J3|apply J4))).mono ?_
 rintro e w6 ⟨v6, rfl, hO6, hb6⟩
 refine hK _ _ (by (repeat first|exact J0|assumption|(apply J1;assumption)|apply J2|apply J3|apply J4)) ?_
 clear hK K
 have hP_w6 := hP.below (show Below _ _ w6 by (repeat first|exact J0|assumption|(apply J1;assumption)|apply J2|apply J3|apply J4))
 have fhP_w6 := hP_w6.facts
 have hZ_w6 := hZ.below (show Below _ _ w6 by (repeat first|exact J0|assumption|(apply J1;assumption)|apply J2|apply J3|apply J4))
 have fhZ_w6 := hZ_w6.facts
 obtain ⟨A6, c6, rfl⟩ := hO6.shape
 refine Z10 ?_
 have hbb : Below w4.heap.size w4 w6 := by (repeat first|exact J0|assumption|(apply J1;assumption)|apply J2|apply J3|apply J4)
 have hO56 := hO5.below (show Below w5.heap.size w5 w6 by (repeat first|exact J0|assumption|(apply J1;assumption)|apply J2|apply J3|apply J4))
 have hz5 : w4.heap.size ≤ w5.heap.size := Below.size (by (repeat first|exact J0|assumption|(apply J1;assumption)|apply J2|apply J3|apply J4))
 go_wp2_with (refine Z4n hZ_w6 rfl _ _ _ rfl rfl rfl (by rfl) (by kernel_rfl) (by kernel_rfl) ?_; intro w12 hZ12 hc12; have f12 := hZ12.facts)
 refine bodyPost_ret (v := .agg #[.string ⟨p.1.toArray⟩, .int .i64 ((X2 - X1).tdiv 2), .slice A5 (oppL p.2.2.2).length c5, .slice A6 (oppL p.2.2.1).length c6]) (by simp [results, Tryz.results76, go_sem, f12]) rfl ?_
 have hz1 : w.heap.size + 1 < w4.heap.size := hZ.lt
 exact ⟨_, _, rfl, (hO56.chg hc12 (by simp; omega)).base_mono hbw4.size, (hO6.chg hc12 (by simp; omega)).base_mono (by omega), Z9f (Z08 hbb hbw4) hc12 (by omega)⟩
end Go.Proofs.YtpcgeihemkhkjaaGreatDoor
namespace Go.Proofs.YtpcgeihemkhkjaaGreatDoor
open Go.RowKit Go.ChangeMaps
set_option maxHeartbeats 4000000
set_option maxRecDepth 100000
theorem Zgp.top {p : Pan} {n : Nat} (h : Zgp p n) (r : Bool) : -(16 + 2 * (n : Int)) ≤ topX p r ∧ topX p r ≤ 16 + 2 * (n : Int) := by
 refine h.near r (posK r (Z34 p r) (stpL (Z33 p r))) ?_
 unfold outP
 exact List.mem_of_getElem? (Z2s r _ _)
theorem Zib {f : Bar → Bar} {a b : List Bar} (ha : a.Nodup) (hf : ∀ x y, f x = f y → x = y) (h : ∀ x ∈ a, f x ∈ b) : a.length ≤ b.length := by
 have := Zd4 (l := a.map f) (D := b) (Zdg ha fun x _ y _ e => hf x y e) (fun x hx => by
  obtain ⟨c, hc, rfl⟩ := List.mem_map.1 hx
  exact h c hc)
 simpa using this
theorem Zic {p : Pan} (h : panE p = 0) (hw : (trnP p).2.1 ≤ 128) : (netL p).length ≤ (netL (trnP p)).length := by
 refine Zib (f := fun b => (topX p true - (b.1 + b.2.2), Z35 p - (b.2.1 + 1), b.2.2)) (Z4w (Ze0 _ _)) (fun x y e => ?_) fun b hb => Zhx h hw hb
 obtain ⟨a, b, c⟩ := x
 obtain ⟨a', b', c'⟩ := y
 simp only [Prod.mk.injEq] at e ⊢
 exact ⟨by omega, by omega, e.2.2⟩
theorem Zid {p : Pan} (h : panE p = 0) (hw : (trnP p).2.1 ≤ 128) : (netL (trnP p)).length = (netL p).length := by
 have ok := Zaw h
 refine Nat.le_antisymm ?_ (Zic h hw)
 have := Zic (Zhw h hw) (by rw [Zi2 ok]; exact ok.wid.2)
 rwa [Zi2 ok] at this
attribute [local go_sem] Oper.semAt_some
def cntU (l : List Stp) (c : UInt8) : Nat := (l.map (·.1)).count c
theorem Zie (l : List Stp) (x : Stp) (q : UInt8) : cntU (l ++ [x]) q = if q = x.1 then cntU l x.1 + 1 else cntU l q := by
 unfold cntU
 rw [List.map_append, List.count_append]
 by_cases h : q = x.1
 ·subst h; simp
 ·rw [if_neg h]
  have : List.count q (List.map (·.1) [x]) = 0 := by simp [Ne.symm h]
  omega
theorem Zif (l : List Stp) (c : UInt8) : cntU l c ≤ l.length := by
 unfold cntU
 have := List.count_le_length (a := c) (l := l.map (·.1))
 simpa using this
end Go.Proofs.YtpcgeihemkhkjaaGreatDoor
namespace Go.Proofs.YtpcgeihemkhkjaaGreatDoor
open Go.RowKit Go.ChangeMaps
set_option maxHeartbeats 4000000
set_option maxRecDepth 100000
abbrev Plc := Int × Bool × Int
abbrev Bal := List UInt8 × Int × Int
def Zig (a b : Strp) : Int × Int := (a.2.1 - b.1, a.2.2.2 - b.2.2.1)
def aptS (a b : Strp) (g : Int) : Prop := (Zig a b).1 ≤ g ∧ (Zig a b).2 ≤ g ∧ ¬ ((Zig a b).1 = g ∧ (Zig a b).2 = g ∧ a.2.1 ≠ a.2.2.2)
instance (a b : Strp) (g : Int) : Decidable (aptS a b g) := by unfold aptS; infer_instance
def stG (A : List Strp) (i : Nat) : Strp := A.getD i (0, 0, 0, 0)
def minL (A B : List Strp) : Nat := min A.length B.length
def Zih (A B : List Strp) : Nat → Int
 | 0 => (Zig (stG A 0) (stG B 0)).1
 | n + 1 => max (max (Zih A B n) (Zig (stG A n) (stG B n)).1) (Zig (stG A n) (stG B n)).2
def comS (A B : List Strp) (g : Int) (i : Nat) : Bool := decide ((Zig (stG A i) (stG B i)).1 = g) && (decide ((Zig (stG A i) (stG B i)).2 = g) && decide ((stG A i).2.1 ≠ (stG A i).2.2.2))
def comG (A B : List Strp) (g : Int) (n : Nat) : Bool := (List.range n).any (comS A B g)
def evnI (m : Int) : Int := m + m % 2
def gapB (A B : List Strp) : Int :=
 if comG A B (evnI (Zih A B (minL A B))) (minL A B) = true then evnI (Zih A B (minL A B)) + 2 else evnI (Zih A B (minL A B))
def aptL (A B : List Strp) (g : Int) : Prop := ∀ i, i < minL A B → aptS (stG A i) (stG B i) g
theorem Zii (A B : List Strp) : ∀ (n i : Nat), i < n → (Zig (stG A i) (stG B i)).1 ≤ Zih A B n ∧ (Zig (stG A i) (stG B i)).2 ≤ Zih A B n
 | 0, _, h => absurd h (by omega)
 | n + 1, i, h => by
  unfold Zih; by_cases e : i = n
  ·subst e; omega
  ·have := Zii A B n i (by omega)
   omega
theorem Zij {A B : List Strp} {g : Int} (h0 : (Zig (stG A 0) (stG B 0)).1 ≤ g) : ∀ (n : Nat), (∀ i, i < n → (Zig (stG A i) (stG B i)).1 ≤ g ∧ (Zig (stG A i) (stG B i)).2 ≤ g) → Zih A B n ≤ g
 | 0, _ => h0
 | n + 1, h => by
  have h1 := Zij h0 n fun i hi => h i (by omega)
  have h2 := h n (by omega)
  unfold Zih; omega
theorem Zik (A B : List Strp) (g : Int) (n : Nat) : comG A B g n = true ↔ ∃ i, i < n ∧ (Zig (stG A i) (stG B i)).1 = g ∧ (Zig (stG A i) (stG B i)).2 = g ∧ (stG A i).2.1 ≠ (stG A i).2.2.2 := by
 unfold comG
 rw [List.any_eq_true]
 constructor
 ·rintro ⟨i, hi, h⟩
  unfold comS at h; simp only [Bool.and_eq_true, decide_eq_true_eq] at h; exact ⟨i, List.mem_range.1 hi, h⟩
 ·rintro ⟨i, hi, h⟩
  refine ⟨i, List.mem_range.2 hi, ?_⟩
  unfold comS; simp only [Bool.and_eq_true, decide_eq_true_eq]; exact h
theorem Zil (A B : List Strp) : gapB A B % 2 = 0 := by
 unfold gapB evnI
 split <;> omega
theorem Zim {A B : List Strp} (h : 0 < minL A B) {g : Int} (hg : g % 2 = 0) : aptL A B g ↔ gapB A B ≤ g := by
 obtain ⟨m, hm⟩ : ∃ m, Zih A B (minL A B) = m := ⟨_, rfl⟩
 constructor
 ·intro ha
  have h1 : m ≤ g := by
   rw [← hm]; exact Zij (ha 0 h).1 _ fun i hi => ⟨(ha i hi).1, (ha i hi).2.1⟩
  unfold gapB; rw [hm]; have h2 : evnI m ≤ g := by unfold evnI; omega
  split
  ·rename_i hc
   obtain ⟨i, hi, c1, c2, c3⟩ := (Zik _ _ _ _).1 hc
   have : evnI m ≠ g := fun e => (ha i hi).2.2 ⟨by rw [c1, e], by rw [c2, e], c3⟩
   have h3 : evnI m % 2 = 0 := by unfold evnI; omega
   omega
  ·exact h2
 ·intro hle i hi
  obtain ⟨n1, n2⟩ := Zii A B _ i hi
  rw [hm] at n1 n2; have h2 : m ≤ evnI m := by unfold evnI; omega
  unfold gapB at hle; rw [hm] at hle; split at hle
  ·exact ⟨by omega, by omega, fun ⟨c1, c2, _⟩ => by omega⟩
  ·rename_i hc
   refine ⟨by omega, by omega, fun ⟨c1, c2, c3⟩ => hc ((Zik _ _ _ _).2 ⟨i, hi, ?_, ?_, c3⟩)⟩
   ·omega
   ·omega
def xsP (p : Pan) : List Int := (outP p false ++ outP p true).map (·.1)
def Zin (p : Pan) : Int × Int := (xsP p).foldl Z6o (999999999, -999999999)
def Zio : Pan := ([], 0, [], [])
def pcP (l : List Pan) (x : Plc) : Pan := if x.2.1 then trnP (l.getD x.1.toNat Zio) else l.getD x.1.toNat Zio
def stP (l : List Pan) (x : Plc) : List Strp := Z6y (pcP l x)
def Zip (l : List Pan) (plan : List Plc) (x : Plc) : Int := plan.foldl (fun a o => max a (o.2.2 + gapB (stP l o) (stP l x))) (evnI (-(Zin (pcP l x)).1))
def Ziq (l : List Pan) (plan : List Plc) (x : Plc) : Plc := (x.1, x.2.1, Zip l plan x)
def layP (l : List Pan) (order : List Plc) : List Plc := order.foldl (fun out x => out ++ [Ziq l out x]) []
theorem Zir (l : List Pan) {order : List Plc} {k : Nat} (hk : k < order.length) : layP l (order.take (k + 1)) = layP l (order.take k) ++ [Ziq l (layP l (order.take k)) order[k]] := by
 unfold layP
 rw [List.take_succ_eq_append_getElem hk, List.foldl_append]
 rfl
def Zis (l : List Pan) (plan : List Plc) : Int := plan.foldl (fun m x => max m ((Zin (pcP l x)).2 + x.2.2)) 0
def lenP (l : List Pan) (plan : List Plc) : Int := (Zis l plan + 1) / 2
def outB (b : Bal) (l : List Pan) (x : Plc) : Bool := decide (b.2.1 < ((stP l x).length : Int)) || (decide ((Zin (pcP l x)).1 + x.2.2 < 0) || decide (2 * b.2.2 < (Zin (pcP l x)).2 + x.2.2))
def crsB (l : List Pan) (done : List Plc) (x : Plc) : Bool := done.any fun o => decide (x.2.2 - o.2.2 < gapB (stP l o) (stP l x))
def fitG (b : Bal) (l : List Pan) : List Plc → List Plc → Int
 | _, [] => 0
 | done, x :: r => if outB b l x = true then 32 else if crsB l done x = true then 16 else fitG b l (done ++ [x]) r
def fitE (b : Bal) (l : List Pan) (plan : List Plc) : Int := fitG b l [] plan
def atE_ (n : Int) : Int := Z17 [Z16 n (-100000) 100000, Z15 (decide (n % 2 ≠ 0)) 14]
def Zit (n : Nat) (done : List Plc) (x : Plc) : Int := Z17 [Z15 (decide (x.1 < 0) || decide ((n : Int) ≤ x.1)) 10, Z15 (done.any fun o => decide (o.1 = x.1)) 9, atE_ x.2.2]
def plcG (n : Nat) : List Plc → List Plc → Int
 | _, [] => 0
 | done, x :: r => if Zit n done x = 0 then plcG n (done ++ [x]) r else Zit n done x
def plcE (n : Nat) (plan : List Plc) : Int := if 16 < plan.length then 5 else plcG n [] plan
def Ziu (done : List Pan) (p : Pan) : Int := Z17 [panE p, Z15 (agnB done p.1) 9, panE (trnP p), Zbm p]
def pieG : List Pan → List Pan → Int
 | _, [] => 0
 | done, p :: r => if Ziu done p = 0 then pieG (done ++ [p]) r else Ziu done p
def pieE (l : List Pan) : Int := if 16 < l.length then 5 else pieG [] l
def Ziv (l : List Pan) (plan : List Plc) : Int := plan.foldl (fun m x => m + ((netL (pcP l x)).length : Int)) 0
def EvnP (plan : List Plc) : Prop := ∀ o ∈ plan, o.2.2 % 2 = 0
def Ziw (l : List Pan) (plan : List Plc) (A : List Strp) (at_ : Int) : Prop := ∀ o ∈ plan, aptL (stP l o) A (at_ - o.2.2)
theorem Zix {f : Plc → Int} : ∀ (l : List Plc) (a b : Int), l.foldl (fun m o => max m (f o)) a ≤ b ↔ a ≤ b ∧ ∀ o ∈ l, f o ≤ b
 | [], a, b => by simp
 | o :: r, a, b => by
  rw [List.foldl_cons, Zix r]; constructor
  ·rintro ⟨h1, h2⟩
   refine ⟨by omega, fun x hx => ?_⟩
   rcases List.mem_cons.1 hx with rfl | hx
   ·omega
   ·exact h2 x hx
  ·rintro ⟨h1, h2⟩
   have := h2 o (List.mem_cons_self ..)
   exact ⟨by omega, fun x hx => h2 x (List.mem_cons_of_mem _ hx)⟩
theorem Ziy {f : Plc → Int} : ∀ (l : List Plc) (a : Int), a % 2 = 0 → (∀ o ∈ l, f o % 2 = 0) → (l.foldl (fun m o => max m (f o)) a) % 2 = 0
 | [], a, h, _ => h
 | o :: r, a, h, ho => by
  rw [List.foldl_cons]; have := ho o (List.mem_cons_self ..)
  exact Ziy r _ (by omega) fun x hx => ho x (List.mem_cons_of_mem _ hx)
theorem Ziz {l : List Pan} {plan : List Plc} {x : Plc} (hE : EvnP plan) : Zip l plan x % 2 = 0 := by
 unfold Zip
 refine Ziy plan _ (by unfold evnI; omega) fun o ho => ?_
 have h1 := hE o ho
 have h2 := Zil (stP l o) (stP l x)
 omega
theorem Zj0 {l : List Pan} {plan : List Plc} {x : Plc} (hE : EvnP plan) (hm : ∀ o ∈ plan, 0 < minL (stP l o) (stP l x)) {a : Int} (ha : a % 2 = 0) : Zip l plan x ≤ a ↔ -(Zin (pcP l x)).1 ≤ a ∧ Ziw l plan (stP l x) a := by
 unfold Zip
 rw [Zix]
 have h0 : evnI (-(Zin (pcP l x)).1) ≤ a ↔ -(Zin (pcP l x)).1 ≤ a := by unfold evnI; omega
 rw [h0]
 refine and_congr Iff.rfl ⟨fun h o ho => ?_, fun h o ho => ?_⟩
 ·have h1 := hE o ho
  exact (Zim (hm o ho) (by omega)).2 (by have := h o ho; omega)
 ·have h1 := hE o ho
  have := (Zim (hm o ho) (g := a - o.2.2) (by omega)).1 (h o ho)
  omega
theorem Zj1 {l : List Pan} {plan : List Plc} {x : Plc} (hE : EvnP plan) (hm : ∀ o ∈ plan, 0 < minL (stP l o) (stP l x)) {a : Int} (_ : -(Zin (pcP l x)).1 ≤ a) (ha : a ≤ Zip l plan x) (hn : a % 2 ≠ 0 ∨ ¬ Ziw l plan (stP l x) a) : a + 1 ≤ Zip l plan x := by
 have he := Ziz (l := l) (x := x) hE
 refine Classical.byContradiction fun hc => ?_
 have e : a = Zip l plan x := by omega
 rcases hn with hn | hn
 ·omega
 ·exact hn ((Zj0 hE hm (by rw [e]; exact he)).1 (by omega)).2
theorem Zj2 {l : List Pan} {plan : List Plc} {x : Plc} (hE : EvnP plan) (hm : ∀ o ∈ plan, 0 < minL (stP l o) (stP l x)) {a : Int} (h0 : -(Zin (pcP l x)).1 ≤ a) (ha : a ≤ Zip l plan x) (he : a % 2 = 0) (hf : Ziw l plan (stP l x) a) : a = Zip l plan x := by
 have := (Zj0 hE hm he).2 ⟨h0, hf⟩
 omega
theorem Zj3 {l : List Pan} {plan : List Plc} {x : Plc} : -(Zin (pcP l x)).1 ≤ Zip l plan x := by
 have h := (Zix (f := fun o => o.2.2 + gapB (stP l o) (stP l x)) plan (evnI (-(Zin (pcP l x)).1)) (Zip l plan x)).1 (Int.le_refl _)
 have h1 := h.1
 unfold evnI at h1
 omega
theorem EvnP.snoc {plan : List Plc} {x : Plc} (h : EvnP plan) (hx : x.2.2 % 2 = 0) : EvnP (plan ++ [x]) := fun o ho => by
 rcases List.mem_append.1 ho with ho | ho
 ·exact h o ho
 ·simp only [List.mem_singleton] at ho
  subst ho; exact hx
theorem Zj4 (l : List Pan) (order : List Plc) : EvnP (layP l order) := by
 have h : ∀ (r : List Plc) (out : List Plc), EvnP out → EvnP (r.foldl (fun out x => out ++ [Ziq l out x]) out) := by
  intro r; induction r with
  | nil => intro out h; exact h
  | cons x r ih => intro out h; exact ih _ (h.snoc (Ziz h))
 exact h order [] (fun o ho => by cases ho)
attribute [local go_sem] Oper.semAt_some
theorem Own.past {α : Type} {enc : α → List Value} {sz base g : Nat} {e t : TypeId} {w w' : World} {v : Value} {l : List α} {cs : Array Value} (ho : Own enc sz base e w v l) (hB : Blk w g t cs) (ht : t ≠ e) (hc : Chg [g] w w') : Own enc sz base e w' v l := ho.chg1 hc (Ne.symm (ho.ne_blk hB ht))
end Go.Proofs.YtpcgeihemkhkjaaGreatDoor
