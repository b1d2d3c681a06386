/- The tests of the reference, plain. Conditions: the panels are valid. -/
import Derived.Test.YtpcgeihemkhkjaaGreatDoorR35
import Derived.Test.YtpcgeihemkhkjaaGreatDoorR28
import Derived.Test.YtpcgeihemkhkjaaGreatDoorR12
import Derived.Test.YtpcgeihemkhkjaaGreatDoorR23
import Derived.Test.YtpcgeihemkhkjaaGreatDoorR11
namespace Go.Proofs.YtpcgeihemkhkjaaGreatDoor
open Go.RowKit Go.ChangeMaps
set_option maxHeartbeats 4000000
set_option maxRecDepth 100000
def barN (p : Pan) : Int := (areaS (strips p) + ((cntU (stpL p.2.2.1 ++ stpL p.2.2.2) 66 : Nat) : Int)).tdiv 2
theorem barN_eq {p : Pan} (ok : PanOk p) : barN p = ((netL p).length : Int) := by
 have h : 2 * ((netL p).length : Int) = areaS (strips p) + ((cntU (stpL p.2.2.1 ++ stpL p.2.2.2) 66 : Nat) : Int) := netL_two ok
 unfold barN
 rw [← h, Int.mul_tdiv_cancel_left _ (by decide)]
theorem pieEa_step {l : List Pan} {j : Nat} (hj : j < l.length) (x : Pan) (h : pieEa (l.take j) x = 0) : pieEa (l.take (j + 1)) x = if l[j].1 = x.1 then 9 else 0 := by
 unfold pieEa at h ⊢
 obtain ⟨h1, h2⟩ := firstI_zero h
 rw [List.take_succ_eq_append_getElem hj, h1]
 have hm : memB ((l.take j).map fun z : Pan => z.1) x.1 = false := by
  unfold whenI at h2
  split at h2
  ·cases h2
  ·rename_i z; simpa using z
 have hm' : x.1 ∉ (l.take j).map fun z : Pan => z.1 := by simpa [memB] using hm
 by_cases e : l[j].1 = x.1
 ·rw [if_pos e]
  have : memB (((l.take j) ++ [l[j]]).map fun z : Pan => z.1) x.1 = true := memB_true (List.mem_map.2 ⟨l[j], List.mem_append_right _ List.mem_cons_self, e⟩)
  rw [this]; rfl
 ·rw [if_neg e]
  have : memB (((l.take j) ++ [l[j]]).map fun z : Pan => z.1) x.1 = false := by
   unfold memB
   rw [decide_eq_false_iff_not, List.map_append, List.mem_append]
   rintro (h | h)
   ·exact hm' h
   ·simp at h; exact e h.symm
  rw [this]; rfl
theorem pieEa_keep {l : List Pan} {x : Pan} : ∀ {j k : Nat}, j ≤ k → k ≤ l.length → pieEa (l.take j) x ≠ 0 → pieEa (l.take k) x = pieEa (l.take j) x := by
 intro j k hjk hk hne
 unfold pieEa at hne ⊢
 by_cases hb : panE x = 0
 ·rw [hb] at hne ⊢
  have hm : memB ((l.take j).map fun z : Pan => z.1) x.1 = true := by
   refine Classical.byContradiction fun hn => hne ?_
   have : memB ((l.take j).map fun z : Pan => z.1) x.1 = false := by simpa using hn
   rw [this]; rfl
  have hm2 : memB ((l.take k).map fun z : Pan => z.1) x.1 = true := by
   have hm1 : x.1 ∈ (l.take j).map fun z : Pan => z.1 := by simpa [memB] using hm
   obtain ⟨z, hz, e⟩ := List.mem_map.1 hm1
   exact memB_true (List.mem_map.2 ⟨z, (List.take_prefix_take_left hjk).subset hz, e⟩)
  rw [hm, hm2]
 ·simp [firstI, hb]
theorem pieEa_none (l : List Pan) (x : Pan) : pieEa (l.take 0) x = panE x := by
 unfold pieEa
 have : memB ((l.take 0).map fun z : Pan => z.1) x.1 = false := by simp [memB]
 rw [this]
 by_cases h : panE x = 0
 ·rw [h]; rfl
 ·simp [firstI, h]
def pieEc (p : Pan) : Int := if panE (trnP p) = 0 then (if 4096 < barN p then 5 else 0) else panE (trnP p)
theorem pieEc_eq {p : Pan} (h : panE p = 0) : pieEb p = pieEc p := by
 unfold pieEb pieEc netErr
 rw [if_pos h, barN_eq (panE_zero h)]
 by_cases ht : panE (trnP p) = 0
 ·rw [if_pos ht, ht]
  by_cases hn : 4096 < (netL p).length
  ·rw [if_pos (by omega)]
   simp [firstI, whenI, hn]
  ·rw [if_neg (by omega)]
   simp [firstI, whenI, hn]
 ·rw [if_neg ht]
  simp [firstI, ht]
end Go.Proofs.YtpcgeihemkhkjaaGreatDoor
namespace Go.Proofs.YtpcgeihemkhkjaaGreatDoor
open Go.RowKit Go.ChangeMaps
set_option maxHeartbeats 4000000
set_option maxRecDepth 100000
attribute [local go_sem] Oper.semAt_some
theorem out_nearY (p : Pan) (right : Bool) (hw : 1 ≤ p.2.1 ∧ p.2.1 ≤ 128) (hs : (stpL (sideP p right)).length ≤ 512) : ∀ k ∈ outP p right, -100000 ≤ k.2 ∧ k.2 ≤ 100000 := by
 intro k hk
 obtain ⟨i, hi, rfl⟩ := List.getElem_of_mem hk
 unfold outP at hi ⊢
 rw [outK_get]
 have h0 : -256 ≤ (fromP p right).1 ∧ (fromP p right).1 ≤ 256 ∧ 0 ≤ (fromP p right).2 ∧ (fromP p right).2 ≤ 256 := by
  unfold fromP
  split <;> simp only <;> omega
 have := end_near (right := right) (n := 256) ((stpL (sideP p right)).take i) h0
 have hl : (((stpL (sideP p right)).take i).length : Int) ≤ 512 := by simp; omega
 omega
theorem strM_snoc (f : Nat → Strp) (k : Nat) : (List.range (k + 1)).map f = (List.range k).map f ++ [f k] := by rw [List.range_succ, List.map_append]; rfl
theorem rstrips_any {vL vR : Value} (p : Pan) (w : World) (hL : SlE w vL p.2.2.1) (hR : SlE w vR p.2.2.2) (hok : PanOk p) :
  Calls Tryz.prog 147 #[.agg #[sV p.1, .int .i64 p.2.1, vL, vR]] w (RG trc 4 223 w (strips p)) := by
 have hw0 : 0 ≤ p.2.1 ∧ p.2.1 ≤ 128 := ⟨by have := hok.wid.1; omega, hok.wid.2⟩
 have o1 := fun W (hb : Below w.heap.size w W) => routline_any p false W (hL.below hb) (hR.below hb) hok.left hok.right hw0
 have o2 := fun W (hb : Below w.heap.size w W) => routline_any p true W (hL.below hb) (hR.below hb) hok.left hok.right hw0
 have hH := fun W (hb : Below w.heap.size w W) => rheight_any (vR := vR) p W (hL.below hb) hok.left
 have hhr := hok.high
 have y1 := out_nearY p false hok.wid hok.left.len
 have y2 := out_nearY p true hok.wid hok.right.len
 have l1 := out_len p false (hok.side false)
 have l2 := out_len p true (hok.side true)
 have n1 : 0 < (outP p false).length := by unfold outP; rw [outK_len]; omega
 have n2 : 0 < (outP p true).length := by unfold outP; rw [outK_len]; omega
 have HS : Hid (strips p = (List.range (heightP p).toNat).map fun y => strI (outP p false) (outP p true) (y : Nat)) := rfl
 obtain ⟨H, hHe⟩ : ∃ n : Nat, heightP p = n := ⟨(heightP p).toNat, by omega⟩
 rw [hHe] at hH HS hhr
 obtain ⟨SP, hSP⟩ : ∃ S, strips p = S := ⟨_, rfl⟩
 rw [hSP] at HS ⊢
 obtain ⟨O1, hO1⟩ : ∃ O, outP p false = O := ⟨_, rfl⟩
 obtain ⟨O2, hO2⟩ : ∃ O, outP p true = O := ⟨_, rfl⟩
 rw [hO1] at o1 y1 l1 n1 HS
 rw [hO2] at o2 y2 l2 n2 HS
 obtain ⟨f, hf⟩ : ∃ f : Nat → Strp, (fun y : Nat => strI O1 O2 (y : Nat)) = f := ⟨_, rfl⟩
 have HF : Hid (∀ y : Nat, f y = ((plcI O1 y).1, (plcI O2 y).1, (plcI O1 y).2, (plcI O2 y).2)) := fun y => by rw [← hf]; rfl
 rw [hf, Int.toNat_natCast] at HS
 clear hHe hSP hO1 hO2 hf
 obtain ⟨AL, cL, rfl, _, _, _⟩ := hL
 obtain ⟨AR, cR, rfl, _, _, _⟩ := hR
 unfold sV at o1 o2 hH ⊢
 have hP := Blk.new w 86 #[.string ⟨p.1.toArray⟩, .int .i64 p.2.1, .slice AL p.2.2.1.length cL, .slice AR p.2.2.2.length cR]
 have fP := hP.facts
 clear hok hw0
 go_enter Tryz.func147, Tryz.ntmps147
 go_upto_region 2 with fail
 refine wp_region_ords [0, 2] [(1, false)] [3, 4, 5] (by kernel_rfl) (by kernel_rfl) (fun d _ _ _ _ h => by cases d <;> exact h) ?_
 simp only [List.map_cons, List.map_nil, List.getD_cons_zero, List.getD_cons_succ]
 repeat (go_big_quiet_step (fail))
 refine wpQuiet_nil ?_
 refine wpMid_run rfl (fun K hK => ?_)
 go_simp
 refine (o1 _ (by (repeat first|exact J0|assumption|(apply J1;assumption)|apply J2|apply J3|apply J4))).mono ?_
 rintro e w2 ⟨v2, rfl, hO1, hb2⟩
 refine hK _ _ (by (repeat first|exact J0|assumption|(apply J1;assumption)|apply J2|apply J3|apply J4)) ?_
 clear hK K
 have hP_w2 := hP.below (show Below _ _ w2 by (repeat first|exact J0|assumption|(apply J1;assumption)|apply J2|apply J3|apply J4))
 have fhP_w2 := hP_w2.facts
 refine wpMid_nil ?_
 go_wp2_with (go_at_call 138; refine (o2 _ (by (repeat first|exact J0|assumption|(apply J1;assumption)|apply J2|apply J3|apply J4))).mono ?_; rintro e w3 ⟨v3, rfl, hO2, hb3⟩)
 have hbw3 : Below w.heap.size w w3 := by (repeat first|exact J0|assumption|(apply J1;assumption)|apply J2|apply J3|apply J4)
 have s1 := (hO1.rd kc_len).below hb3
 have s2 := hO2.rd kc_len
 have hP3 := hP_w2.below hb3
 have c1 := fun (y : Nat) W (hb : Below w3.heap.size w3 W) => rplaces_any O1 (y : Nat) W (s1.below hb) n1 (by omega) y1
 have c2 := fun (y : Nat) W (hb : Below w3.heap.size w3 W) => rplaces_any O2 (y : Nat) W (s2.below hb) n2 (by omega) y2
 obtain ⟨A2, d2, rfl⟩ := hO1.shape
 obtain ⟨A3, d3, rfl⟩ := hO2.shape
 clear o1 o2 hO1 hO2 s1 s2 y1 y2 hb2 hb3 hP fP hP_w2 fhP_w2
 go_loopw [3, 6] (fun o i wr => ∃ k : Nat, k ≤ H ∧ i = .int .i64 k ∧ Own trc 4 w3.heap.size 223 wr o ((List.range k).map f) ∧ Below w3.heap.size w3 wr) (fun _ i _ => H - (intOf i).toNat)
 case atStart => exact ⟨0, Nat.zero_le _, rfl, by simpa using Own.nil_, bl_refl⟩
 case round =>
  obtain ⟨k, hk, rfl, hO, hbk⟩ := hrel
  obtain ⟨wo, rfl⟩ : ∃ x, x = wr := ⟨_, rfl⟩
  have hP4 := hP3.below hbk
  have fP4 := hP4.facts
  go_wp2_with fail
  refine (hH _ (bl_then hbk hbw3)).mono ?_
  rintro e w5 ⟨rfl, hb5⟩
  have hbk5 : Below w3.heap.size w3 w5 := bl_then hb5 hbk
  have hO5 := hO.below hb5
  by_cases hlt : k < H
  ·have HN := Lib.hid (strM_snoc f k)
   have hf := HF.out k
   have ck1 := c1 k
   have ck2 := c2 k
   obtain ⟨⟨a1, b1⟩, hk1⟩ : ∃ z, plcI O1 (k : Nat) = z := ⟨_, rfl⟩
   obtain ⟨⟨a2, b2⟩, hk2⟩ : ∃ z, plcI O2 (k : Nat) = z := ⟨_, rfl⟩
   rw [hk1] at hf ck1
   rw [hk2] at hf ck2
   simp only at hf ck1 ck2
   rw [hf] at HN
   obtain ⟨M, hM⟩ : ∃ M, (List.range k).map f = M := ⟨_, rfl⟩
   have hMl : M.length ≤ 256 := by rw [← hM]; simp; omega
   rw [hM] at hO5 HN
   clear hk1 hk2 hf hM hO hP4 fP4
   obtain ⟨Ao, co, rfl⟩ := hO5.shape
   go_wp2_with fail
   refine (ck1 _ hbk5).mono ?_
   rintro e w6 ⟨rfl, hb6⟩
   go_wp2_with fail
   refine (ck2 _ (bl_then hb6 hbk5)).mono ?_
   rintro e w7 ⟨rfl, hb7⟩
   have hO7 := (hO5.below hb6).below hb7
   have hbk7 : Below w3.heap.size w3 w7 := bl_then hb7 (bl_then hb6 hbk5)
   have hB1 := (Blk.new w7 119 #[.int .i64 a1, .int .i64 b1]).alloc (.cells #[.int .i64 a2, .int .i64 b2] 119)
   have hB2 := Blk.new1 w7 (.cells #[.int .i64 a1, .int .i64 b1] 119) 119 #[.int .i64 a2, .int .i64 b2]
   have f1 := hB1.facts
   have f2 := hB2.facts
   have hal : Below w7.heap.size w7 (((w7.alloc (.cells #[.int .i64 a1, .int .i64 b1] 119)).alloc (.cells #[.int .i64 a2, .int .i64 b2] 119)).alloc (.cells #[.int .i64 a1, .int .i64 a2, .int .i64 b1, .int .i64 b2] 223)) := bl_alloc (bl_alloc (bl_alloc bl_refl _) _) _
   have hal2 := hal.size
   have hu := Sl.oneG (enc := trc) (sz := 4) ((w7.alloc (.cells #[.int .i64 a1, .int .i64 b1] 119)).alloc (.cells #[.int .i64 a2, .int .i64 b2] 119)) 223 (a1, a2, b1, b2) #[.int .i64 a1, .int .i64 a2, .int .i64 b1, .int .i64 b2] rfl
   rw [World.size_alloc, World.size_alloc] at hu
   have hOa := hO7.below hal
   have hz7 := hbk7.size
   go_wp2_with (at_builtin; refine wpList_app rfl rstrp_elem trc_len trc_one _ _ rfl w3.heap.size _ _ _ [(a1, a2, b1, b2)] rfl rfl hOa hu (by simp [maxLen]; omega) (by simp; omega) (by omega) ?_; intro v9 w9 hu9 hgr9)
   have hb9 : Below w3.heap.size w3 w9 := bl_grown hgr9 (bl_then hal hbk7) (fun j e => (hOa.lt j e).1)
   go_wp2
   go_roundw
   case rel => exact ⟨k + 1, by omega, by go_num, by rw [HN.out]; exact hu9, hb9⟩
   case measure => simp [intOf]; omega
  ·obtain rfl : k = H := by omega
   rw [← HS.out] at hO5
   go_wp2
   go_ret
   exact ⟨_, rfl, hO5.base_mono (by have := hbw3.size; omega), bl_then hb5 (bl_then hbk hbw3)⟩
theorem rarea_any {vL vR : Value} (p : Pan) (w : World) (hL : SlE w vL p.2.2.1) (hR : SlE w vR p.2.2.2) (hok : PanOk p) :
  Calls Tryz.prog 142 #[.agg #[sV p.1, .int .i64 p.2.1, vL, vR]] w (RV w (.int .i64 (areaS (strips p)))) := by
 have hbd := fun W (hb : Below w.heap.size w W) => rstrips_any p W (hL.below hb) (hR.below hb) hok
 have hS := strips_near hok
 have hSl := strips_le hok
 obtain ⟨S, hSS⟩ : ∃ S, strips p = S := ⟨_, rfl⟩
 rw [hSS] at hbd hS hSl ⊢
 obtain ⟨AL, cL, rfl, _, _, _⟩ := hL
 obtain ⟨AR, cR, rfl, _, _, _⟩ := hR
 unfold sV at hbd ⊢
 have hP := Blk.new w 86 #[.string ⟨p.1.toArray⟩, .int .i64 p.2.1, .slice AL p.2.2.1.length cL, .slice AR p.2.2.2.length cR]
 have fhP := hP.facts
 have HSN := Lib.hid hS
 have HAN := Lib.hid (areaS_near hS)
 clear hok hSS hS
 go_enter Tryz.func142, Tryz.ntmps142
 go_wp2_with fail
 refine (hbd _ (by (repeat first|exact J0|assumption|(apply J1;assumption)|apply J2|apply J3|apply J4))).mono ?_
 rintro e w3 ⟨v3, rfl, hO3, hb3⟩
 replace hP := hP.below (show Below _ _ w3 by (repeat first|exact J0|assumption|(apply J1;assumption)|apply J2|apply J3|apply J4))
 replace fhP := hP.facts
 obtain ⟨A3, c3, rfl⟩ := hO3.shape
 obtain ⟨_, _, he3, hlc3, hcm3, hr3⟩ := hO3.rd trc_len
 obtain ⟨rfl, rfl⟩ : A3 = _ ∧ c3 = _ := by simpa using he3
 have hbw3 : Below w.heap.size w w3 := by (repeat first|exact J0|assumption|(apply J1;assumption)|apply J2|apply J3|apply J4)
 clear hP fhP hb3 he3 hbd hO3 hlc3 hcm3
 go_wp2
 go_loopw [3, 5] (fun s3 s5 wr => ∃ k : Nat, k ≤ S.length ∧ s5 = .int .i64 k ∧ s3 = .int .i64 (areaS (S.take k)) ∧ Below w3.heap.size w3 wr) (fun _ s _ => S.length - (intOf s).toNat)
 case atStart => exact ⟨0, Nat.zero_le _, rfl, rfl, bl_refl⟩
 case round =>
  obtain ⟨k, hk, rfl, rfl, hbk⟩ := hrel
  obtain ⟨wo, rfl⟩ : ∃ x, x = wr := ⟨_, rfl⟩
  have hl := HAN.out k hk
  by_cases hlt : k < S.length
  ·obtain ⟨b, off, rfl, hb, e0, e1, e2, e3⟩ := (hr3.below hbk).strp hlt
   have hs := HSN.out _ (List.getElem_mem hlt)
   have HT := Lib.hid (areaS_snoc hlt)
   obtain ⟨⟨x0, x1, x2, x3⟩, hx⟩ : ∃ z, S[k] = z := ⟨_, rfl⟩
   rw [hx] at e0 e1 e2 e3 HT hs
   unfold nearS at hs
   simp only at e0 e1 e2 e3 hs
   obtain ⟨⟨_, _⟩, ⟨_, _⟩, ⟨_, _⟩, _, _⟩ := hs
   obtain ⟨m, hm⟩ : ∃ m, areaS (S.take k) = m := ⟨_, rfl⟩
   rw [hm] at hl HT
   rw [hm]
   obtain ⟨hl1, hl2⟩ := hl
   have hl3 : -102400000 ≤ m := by omega
   have hl4 : m ≤ 102400000 := by omega
   clear hx hm hl1 hl2
   go_upto_region 6 with fail
   refine wp_region_ords [0, 1, 2, 3, 4, 5, 6, 7, 8, 9, 10, 11, 12, 13, 14, 15, 16, 17, 18, 19, 20, 21, 22, 23, 24, 25, 26, 27, 28, 29] [] [] (by kernel_rfl) (by kernel_rfl) (fun d _ _ _ _ h => by cases d <;> exact h) ?_
   simp only [List.map_cons, List.map_nil, List.getD_cons_zero, List.getD_cons_succ]
   repeat (go_big_quiet_step (fail))
   refine wpQuiet_nil ?_
   refine wpMid_nil ?_
   go_wp2
   go_roundw
   case rel => exact ⟨k + 1, by omega, by go_num, by rw [HT.out]; congr 1; simp only; omega, by (repeat first|exact J0|assumption|(apply J1;assumption)|apply J2|apply J3|apply J4)⟩
   case measure => simp [intOf]; omega
  ·obtain rfl : k = S.length := by omega
   rw [List.take_length]
   go_wp2
   refine bodyPost_ret (v := .int .i64 (areaS S)) (by simp [results, Tryz.results142, go_sem]) rfl ?_
   exact ⟨rfl, bl_then hbk hbw3⟩
end Go.Proofs.YtpcgeihemkhkjaaGreatDoor
