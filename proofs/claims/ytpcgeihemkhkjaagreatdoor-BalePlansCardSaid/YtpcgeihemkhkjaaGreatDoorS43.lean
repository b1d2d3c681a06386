/- The tests of the reference, plain. Conditions: the panels are valid. -/
import Derived.Test.YtpcgeihemkhkjaaGreatDoorS35
import Derived.Test.YtpcgeihemkhkjaaGreatDoorS28
import Derived.Test.YtpcgeihemkhkjaaGreatDoorS12
import Derived.Test.YtpcgeihemkhkjaaGreatDoorS23
import Derived.Test.YtpcgeihemkhkjaaGreatDoorS11
namespace Go.Proofs.YtpcgeihemkhkjaaGreatDoor
open Go.RowKit Go.ChangeMaps
set_option maxHeartbeats 4000000
set_option maxRecDepth 100000
theorem Zsd {l : List Pan} {done : List Plc} {x : Plc} (hm : ∀ o ∈ done, 0 < minL (stP l o) (stP l x)) (he : EvnP done) (hx : x.2.2 % 2 = 0) : crsB l done x = true ↔ ¬ Ziw l done (stP l x) x.2.2 := by
 unfold crsB Ziw
 rw [List.any_eq_true]
 constructor
 ·rintro ⟨o, ho, h⟩ hf
  rw [decide_eq_true_eq] at h; have h1 := he o ho
  have := (Zim (hm o ho) (by omega)).1 (hf o ho)
  omega
 ·intro h
  refine Classical.byContradiction fun hc => h fun o ho => ?_
  have h1 := he o ho
  refine (Zim (hm o ho) (by omega)).2 (Classical.byContradiction fun hg => hc ⟨o, ho, ?_⟩)
  rw [decide_eq_true_eq]; omega
def aptW (A : List Strp) (at_ : Int) (B : List Strp) (bt : Int) (i : Nat) : Bool := decide ((stG B i).1 + bt < (stG A i).2.1 + at_) || (decide ((stG B i).2.2.1 + bt < (stG A i).2.2.2 + at_) || (decide ((stG A i).2.1 + at_ = (stG B i).1 + bt) && (decide ((stG A i).2.2.2 + at_ = (stG B i).2.2.1 + bt) && decide ((stG A i).2.1 ≠ (stG A i).2.2.2))))
theorem Zse {A B : List Strp} {at_ bt : Int} {i : Nat} : aptW A at_ B bt i = false ↔ aptS (stG A i) (stG B i) (bt - at_) := by
 unfold aptW aptS Zig
 simp only [Bool.or_eq_false_iff, Bool.and_eq_false_iff, decide_eq_false_iff_not]
 constructor
 ·rintro ⟨h1, h2, h3⟩
  refine ⟨by omega, by omega, fun ⟨a, b, c⟩ => ?_⟩
  rcases h3 with h3 | h3 | h3
  ·omega
  ·omega
  ·exact h3 c
 ·rintro ⟨h1, h2, h3⟩
  refine ⟨by omega, by omega, ?_⟩
  by_cases q1 : (stG A i).2.1 + at_ = (stG B i).1 + bt
  ·by_cases q2 : (stG A i).2.2.2 + at_ = (stG B i).2.2.1 + bt
   ·by_cases q3 : (stG A i).2.1 ≠ (stG A i).2.2.2
    ·exact absurd ⟨by omega, by omega, q3⟩ h3
    ·exact .inr (.inr q3)
   ·exact .inr (.inl q2)
  ·exact .inl q1
theorem Zsf {A B : List Strp} {at_ bt : Int} : aptL A B (bt - at_) ↔ ∀ i, i < minL A B → aptW A at_ B bt i = false := by
 unfold aptL
 exact forall_congr' fun i => imp_congr_right fun _ => Zse.symm
def Zsg (A : List Strp) (at_ : Int) (B : List Strp) (bt : Int) : Bool := (List.range (minL A B)).all fun i => !aptW A at_ B bt i
theorem Zsh {A B : List Strp} {at_ bt : Int} : Zsg A at_ B bt = true ↔ ∀ i, i < minL A B → aptW A at_ B bt i = false := by
 unfold Zsg
 rw [List.all_eq_true]
 exact ⟨fun h i hi => by simpa using h i (List.mem_range.2 hi), fun h i hi => by simpa using h i (List.mem_range.1 hi)⟩
theorem Zsi {A B : List Strp} {at_ bt : Int} : Zsg A at_ B bt = true ↔ aptL A B (bt - at_) := Zsh.trans Zsf.symm
theorem Zsj {A B : List Strp} {at_ bt : Int} {k : Nat} (hk : k < minL A B) (h : aptW A at_ B bt k = true) : Zsg A at_ B bt = false := by
 cases e : Zsg A at_ B bt
 ·rfl
 ·rw [Zsh.1 e k hk] at h
  cases h
def barN (p : Pan) : Int := (Z72 (Z6y p) + ((cntU (stpL p.2.2.1 ++ stpL p.2.2.2) 66 : Nat) : Int)).tdiv 2
theorem Zsk {p : Pan} (ok : Zas p) : barN p = ((netL p).length : Int) := by
 have h : 2 * ((netL p).length : Int) = Z72 (Z6y p) + ((cntU (stpL p.2.2.1 ++ stpL p.2.2.2) 66 : Nat) : Int) := Zce ok
 unfold barN
 rw [← h, Int.mul_tdiv_cancel_left _ (by decide)]
theorem Zsl {l : List Pan} {j : Nat} (hj : j < l.length) (x : Pan) (h : Zly (l.take j) x = 0) : Zly (l.take (j + 1)) x = if l[j].1 = x.1 then 9 else 0 := by
 unfold Zly at h ⊢
 obtain ⟨h1, h2⟩ := Z9l h
 rw [List.take_succ_eq_append_getElem hj, h1]
 have hm : memB ((l.take j).map fun z : Pan => z.1) x.1 = false := by
  unfold Z15 at h2; split at h2
  ·cases h2
  ·rename_i z; simpa using z
 have hm' : x.1 ∉ (l.take j).map fun z : Pan => z.1 := by simpa [memB] using hm
 by_cases e : l[j].1 = x.1
 ·rw [if_pos e]
  have : memB (((l.take j) ++ [l[j]]).map fun z : Pan => z.1) x.1 = true := Zlq (List.mem_map.2 ⟨l[j], List.mem_append_right _ List.mem_cons_self, e⟩)
  rw [this]; rfl
 ·rw [if_neg e]
  have : memB (((l.take j) ++ [l[j]]).map fun z : Pan => z.1) x.1 = false := by
   unfold memB; rw [decide_eq_false_iff_not, List.map_append, List.mem_append]; rintro (h | h)
   ·exact hm' h
   ·simp at h; exact e h.symm
  rw [this]; rfl
theorem Zsm {l : List Pan} {x : Pan} : ∀ {j k : Nat}, j ≤ k → k ≤ l.length → Zly (l.take j) x ≠ 0 → Zly (l.take k) x = Zly (l.take j) x := by
 intro j k hjk hk hne
 unfold Zly at hne ⊢
 by_cases hb : panE x = 0
 ·rw [hb] at hne ⊢
  have hm : memB ((l.take j).map fun z : Pan => z.1) x.1 = true := by
   refine Classical.byContradiction fun hn => hne ?_
   have : memB ((l.take j).map fun z : Pan => z.1) x.1 = false := by simpa using hn
   rw [this]; rfl
  have hm2 : memB ((l.take k).map fun z : Pan => z.1) x.1 = true := by
   have hm1 : x.1 ∈ (l.take j).map fun z : Pan => z.1 := by simpa [memB] using hm
   obtain ⟨z, hz, e⟩ := List.mem_map.1 hm1
   exact Zlq (List.mem_map.2 ⟨z, (List.take_prefix_take_left hjk).subset hz, e⟩)
  rw [hm, hm2]
 ·simp [Z17, hb]
theorem Zsn (l : List Pan) (x : Pan) : Zly (l.take 0) x = panE x := by
 unfold Zly
 have : memB ((l.take 0).map fun z : Pan => z.1) x.1 = false := by simp [memB]
 rw [this]
 by_cases h : panE x = 0
 ·rw [h]; rfl
 ·simp [Z17, h]
def Zso (p : Pan) : Int := if panE (trnP p) = 0 then (if 4096 < barN p then 5 else 0) else panE (trnP p)
theorem Zsp {p : Pan} (h : panE p = 0) : Zlz p = Zso p := by
 unfold Zlz Zso Zbm
 rw [if_pos h, Zsk (Zaw h)]
 by_cases ht : panE (trnP p) = 0
 ·rw [if_pos ht, ht]
  by_cases hn : 4096 < (netL p).length
  ·rw [if_pos (by omega)]
   simp [Z17, Z15, hn]
  ·rw [if_neg (by omega)]
   simp [Z17, Z15, hn]
 ·rw [if_neg ht]
  simp [Z17, ht]
attribute [local go_sem] Oper.semAt_some
theorem Zsq (p : Pan) (right : Bool) (hw : 1 ≤ p.2.1 ∧ p.2.1 ≤ 128) (hs : (stpL (Z33 p right)).length ≤ 512) : ∀ k ∈ outP p right, -100000 ≤ k.2 ∧ k.2 ≤ 100000 := by
 intro k hk
 obtain ⟨i, hi, rfl⟩ := List.getElem_of_mem hk
 unfold outP at hi ⊢
 rw [Z2r]
 have h0 : -256 ≤ (Z34 p right).1 ∧ (Z34 p right).1 ≤ 256 ∧ 0 ≤ (Z34 p right).2 ∧ (Z34 p right).2 ≤ 256 := by
  unfold Z34; split <;> simp only <;> omega
 have := Z2u (right := right) (n := 256) ((stpL (Z33 p right)).take i) h0
 have hl : (((stpL (Z33 p right)).take i).length : Int) ≤ 512 := by simp; omega
 omega
theorem Zsr (f : Nat → Strp) (k : Nat) : (List.range (k + 1)).map f = (List.range k).map f ++ [f k] := by rw [List.range_succ, List.map_append]; rfl
theorem Zss {vL vR : Value} (p : Pan) (w : World) (hL : SlE w vL p.2.2.1) (hR : SlE w vR p.2.2.2) (hok : Zas p) :
  Calls Tryz.prog 147 #[.agg #[sV p.1, .int .i64 p.2.1, vL, vR]] w (RG trc 4 223 w (Z6y p)) := by
 have hw0 : 0 ≤ p.2.1 ∧ p.2.1 ≤ 128 := ⟨by have := hok.wid.1; omega, hok.wid.2⟩
 have o1 := fun W (hb : Below w.heap.size w W) => Zcq p false W (hL.below hb) (hR.below hb) hok.left hok.right hw0
 have o2 := fun W (hb : Below w.heap.size w W) => Zcq p true W (hL.below hb) (hR.below hb) hok.left hok.right hw0
 have hH := fun W (hb : Below w.heap.size w W) => Zcr (vR := vR) p W (hL.below hb) hok.left
 have hhr := hok.high
 have y1 := Zsq p false hok.wid hok.left.len
 have y2 := Zsq p true hok.wid hok.right.len
 have l1 := Zaq p false (hok.side false)
 have l2 := Zaq p true (hok.side true)
 have n1 : 0 < (outP p false).length := by unfold outP; rw [Z2p]; omega
 have n2 : 0 < (outP p true).length := by unfold outP; rw [Z2p]; omega
 have HS : Hid (Z6y p = (List.range (Z35 p).toNat).map fun y => strI (outP p false) (outP p true) (y : Nat)) := rfl
 obtain ⟨H, hHe⟩ : ∃ n : Nat, Z35 p = n := ⟨(Z35 p).toNat, by omega⟩
 rw [hHe] at hH HS hhr
 obtain ⟨SP, hSP⟩ : ∃ S, Z6y p = S := ⟨_, rfl⟩
 rw [hSP] at HS ⊢
 obtain ⟨O1, hO1⟩ : ∃ O, outP p false = O := ⟨_, rfl⟩
 obtain ⟨O2, hO2⟩ : ∃ O, outP p true = O := ⟨_, rfl⟩
 rw [hO1] at o1 y1 l1 n1 HS
 rw [hO2] at o2 y2 l2 n2 HS
 obtain ⟨f, hf⟩ : ∃ f : Nat → Strp, (fun y : Nat => strI O1 O2 (y : Nat)) = f := ⟨_, rfl⟩
 have HF : Hid (∀ y : Nat, f y = ((plcI O1 y).1, (plcI O2 y).1, (plcI O1 y).2, (plcI O2 y).2)) := fun y => by rw [← hf]; rfl
 rw [hf, Int.toNat_natCast] at HS
 clear hHe hSP hO1 hO2 hf
 obtain ⟨AL, cL, rfl, _, _, _⟩ := hL
 obtain ⟨AR, cR, rfl, _, _, _⟩ := hR
 unfold sV at o1 o2 hH ⊢
 have hP := Blk.new w 86 #[.string ⟨p.1.toArray⟩, .int .i64 p.2.1, .slice AL p.2.2.1.length cL, .slice AR p.2.2.2.length cR]
 have fP := hP.facts
 clear hok hw0
 go_enter Tryz.func147, Tryz.ntmps147
 go_upto_region 2 with fail
 refine Z0z [0, 2] [(1, false)] [3, 4, 5] (by kernel_rfl) (by kernel_rfl) (fun d _ _ _ _ h => by cases d <;> exact h) ?_
 simp only [List.map_cons, List.map_nil, List.getD_cons_zero, List.getD_cons_succ]
 repeat (go_big_quiet_step (fail))
 refine wpQuiet_nil ?_
 refine Z11 rfl (fun K hK => ?_)
 go_simp
 refine (o1 _ (by (repeat first|exact J0|assumption|(apply J1;assumption)|apply J2|apply J3|apply J4))).mono ?_
 rintro e w2 ⟨v2, rfl, hO1, hb2⟩
 refine hK _ _ (by (repeat first|exact J0|assumption|(apply J1;assumption)|apply J2|apply J3|apply J4)) ?_
 clear hK K
 have hP_w2 := hP.below (show Below _ _ w2 by (repeat first|exact J0|assumption|(apply J1;assumption)|apply J2|apply J3|apply J4))
 have fhP_w2 := hP_w2.facts
 refine Z10 ?_
 go_wp2_with (go_at_call 138; refine (o2 _ (by (repeat first|exact J0|assumption|(apply J1;assumption)|apply J2|apply J3|apply J4))).mono ?_; rintro e w3 ⟨v3, rfl, hO2, hb3⟩)
 have hbw3 : Below w.heap.size w w3 := by (repeat first|exact J0|assumption|(apply J1;assumption)|apply J2|apply J3|apply J4)
 have s1 := (hO1.rd Z21).below hb3
 have s2 := hO2.rd Z21
 have hP3 := hP_w2.below hb3
 have c1 := fun (y : Nat) W (hb : Below w3.heap.size w3 W) => Zi7 O1 (y : Nat) W (s1.below hb) n1 (by omega) y1
 have c2 := fun (y : Nat) W (hb : Below w3.heap.size w3 W) => Zi7 O2 (y : Nat) W (s2.below hb) n2 (by omega) y2
 obtain ⟨A2, d2, rfl⟩ := hO1.shape
 obtain ⟨A3, d3, rfl⟩ := hO2.shape
 clear o1 o2 hO1 hO2 s1 s2 y1 y2 hb2 hb3 hP fP hP_w2 fhP_w2
 go_loopw [3, 6] (fun o i wr => ∃ k : Nat, k ≤ H ∧ i = .int .i64 k ∧ Own trc 4 w3.heap.size 223 wr o ((List.range k).map f) ∧ Below w3.heap.size w3 wr) (fun _ i _ => H - (intOf i).toNat)
 case atStart => exact ⟨0, Nat.zero_le _, rfl, by simpa using Own.nil_, Z03⟩
 case round =>
  obtain ⟨k, hk, rfl, hO, hbk⟩ := hrel; obtain ⟨wo, rfl⟩ : ∃ x, x = wr := ⟨_, rfl⟩
  have hP4 := hP3.below hbk
  have fP4 := hP4.facts
  go_wp2_with fail; refine (hH _ (Z08 hbk hbw3)).mono ?_
  rintro e w5 ⟨rfl, hb5⟩; have hbk5 : Below w3.heap.size w3 w5 := Z08 hb5 hbk
  have hO5 := hO.below hb5
  by_cases hlt : k < H
  ·have HN := Lib.hid (Zsr f k)
   have hf := HF.out k
   have ck1 := c1 k
   have ck2 := c2 k
   obtain ⟨⟨a1, b1⟩, hk1⟩ : ∃ z, plcI O1 (k : Nat) = z := ⟨_, rfl⟩
   obtain ⟨⟨a2, b2⟩, hk2⟩ : ∃ z, plcI O2 (k : Nat) = z := ⟨_, rfl⟩
   rw [hk1] at hf ck1; rw [hk2] at hf ck2; simp only at hf ck1 ck2
   rw [hf] at HN; obtain ⟨M, hM⟩ : ∃ M, (List.range k).map f = M := ⟨_, rfl⟩
   have hMl : M.length ≤ 256 := by rw [← hM]; simp; omega
   rw [hM] at hO5 HN; clear hk1 hk2 hf hM hO hP4 fP4; obtain ⟨Ao, co, rfl⟩ := hO5.shape; go_wp2_with fail; refine (ck1 _ hbk5).mono ?_
   rintro e w6 ⟨rfl, hb6⟩; go_wp2_with fail; refine (ck2 _ (Z08 hb6 hbk5)).mono ?_
   rintro e w7 ⟨rfl, hb7⟩; have hO7 := (hO5.below hb6).below hb7
   have hbk7 : Below w3.heap.size w3 w7 := Z08 hb7 (Z08 hb6 hbk5)
   have hB1 := (Blk.new w7 119 #[.int .i64 a1, .int .i64 b1]).alloc (.cells #[.int .i64 a2, .int .i64 b2] 119)
   have hB2 := Blk.new1 w7 (.cells #[.int .i64 a1, .int .i64 b1] 119) 119 #[.int .i64 a2, .int .i64 b2]
   have f1 := hB1.facts
   have f2 := hB2.facts
   have hal : Below w7.heap.size w7 (((w7.alloc (.cells #[.int .i64 a1, .int .i64 b1] 119)).alloc (.cells #[.int .i64 a2, .int .i64 b2] 119)).alloc (.cells #[.int .i64 a1, .int .i64 a2, .int .i64 b1, .int .i64 b2] 223)) := Z04 (Z04 (Z04 Z03 _) _) _
   have hal2 := hal.size
   have hu := Sl.oneG (enc := trc) (sz := 4) ((w7.alloc (.cells #[.int .i64 a1, .int .i64 b1] 119)).alloc (.cells #[.int .i64 a2, .int .i64 b2] 119)) 223 (a1, a2, b1, b2) #[.int .i64 a1, .int .i64 a2, .int .i64 b1, .int .i64 b2] rfl
   rw [World.size_alloc, World.size_alloc] at hu; have hOa := hO7.below hal
   have hz7 := hbk7.size
   go_wp2_with (at_builtin; refine Z3y rfl Z8s Z8k Z8n _ _ rfl w3.heap.size _ _ _ [(a1, a2, b1, b2)] rfl rfl hOa hu (by simp [maxLen]; omega) (by simp; omega) (by omega) ?_; intro v9 w9 hu9 hgr9)
   have hb9 : Below w3.heap.size w3 w9 := Z09 hgr9 (Z08 hal hbk7) (fun j e => (hOa.lt j e).1)
   go_wp2; go_roundw; case rel => exact ⟨k + 1, by omega, by go_num, by rw [HN.out]; exact hu9, hb9⟩
   case measure => simp [intOf]; omega
  ·obtain rfl : k = H := by omega
   rw [← HS.out] at hO5; go_wp2; go_ret; exact ⟨_, rfl, hO5.base_mono (by have := hbw3.size; omega), Z08 hb5 (Z08 hbk hbw3)⟩
theorem Zst {vL vR : Value} (p : Pan) (w : World) (hL : SlE w vL p.2.2.1) (hR : SlE w vR p.2.2.2) (hok : Zas p) :
  Calls Tryz.prog 142 #[.agg #[sV p.1, .int .i64 p.2.1, vL, vR]] w (RV w (.int .i64 (Z72 (Z6y p)))) := by
 have hbd := fun W (hb : Below w.heap.size w W) => Zss p W (hL.below hb) (hR.below hb) hok
 have hS := Zb2 hok
 have hSl := Zb4 hok
 obtain ⟨S, hSS⟩ : ∃ S, Z6y p = S := ⟨_, rfl⟩
 rw [hSS] at hbd hS hSl ⊢
 obtain ⟨AL, cL, rfl, _, _, _⟩ := hL
 obtain ⟨AR, cR, rfl, _, _, _⟩ := hR
 unfold sV at hbd ⊢
 have hP := Blk.new w 86 #[.string ⟨p.1.toArray⟩, .int .i64 p.2.1, .slice AL p.2.2.1.length cL, .slice AR p.2.2.2.length cR]
 have fhP := hP.facts
 have HSN := Lib.hid hS
 have HAN := Lib.hid (Zb6 hS)
 clear hok hSS hS
 go_enter Tryz.func142, Tryz.ntmps142
 go_wp2_with fail
 refine (hbd _ (by (repeat first|exact J0|assumption|(apply J1;assumption)|apply J2|apply J3|apply J4))).mono ?_
 rintro e w3 ⟨v3, rfl, hO3, hb3⟩
 replace hP := hP.below (show Below _ _ w3 by (repeat first|exact J0|assumption|(apply J1;assumption)|apply J2|apply J3|apply J4))
 replace fhP := hP.facts
 obtain ⟨A3, c3, rfl⟩ := hO3.shape
 obtain ⟨_, _, he3, hlc3, hcm3, hr3⟩ := hO3.rd Z8k
 obtain ⟨rfl, rfl⟩ : A3 = _ ∧ c3 = _ := by simpa using he3
 have hbw3 : Below w.heap.size w w3 := by (repeat first|exact J0|assumption|(apply J1;assumption)|apply J2|apply J3|apply J4)
 clear hP fhP hb3 he3 hbd hO3 hlc3 hcm3
 go_wp2
 go_loopw [3, 5] (fun s3 s5 wr => ∃ k : Nat, k ≤ S.length ∧ s5 = .int .i64 k ∧ s3 = .int .i64 (Z72 (S.take k)) ∧ Below w3.heap.size w3 wr) (fun _ s _ => S.length - (intOf s).toNat)
 case atStart => exact ⟨0, Nat.zero_le _, rfl, rfl, Z03⟩
 case round =>
  obtain ⟨k, hk, rfl, rfl, hbk⟩ := hrel; obtain ⟨wo, rfl⟩ : ∃ x, x = wr := ⟨_, rfl⟩
  have hl := HAN.out k hk
  by_cases hlt : k < S.length
  ·obtain ⟨b, off, rfl, hb, e0, e1, e2, e3⟩ := (hr3.below hbk).strp hlt
   have hs := HSN.out _ (List.getElem_mem hlt)
   have HT := Lib.hid (Zb5 hlt)
   obtain ⟨⟨x0, x1, x2, x3⟩, hx⟩ : ∃ z, S[k] = z := ⟨_, rfl⟩
   rw [hx] at e0 e1 e2 e3 HT hs; unfold Zaz at hs; simp only at e0 e1 e2 e3 hs
   obtain ⟨⟨_, _⟩, ⟨_, _⟩, ⟨_, _⟩, _, _⟩ := hs; obtain ⟨m, hm⟩ : ∃ m, Z72 (S.take k) = m := ⟨_, rfl⟩
   rw [hm] at hl HT; rw [hm]; obtain ⟨hl1, hl2⟩ := hl; have hl3 : -102400000 ≤ m := by omega
   have hl4 : m ≤ 102400000 := by omega
   clear hx hm hl1 hl2; go_upto_region 6 with fail; refine Z0z [0, 1, 2, 3, 4, 5, 6, 7, 8, 9, 10, 11, 12, 13, 14, 15, 16, 17, 18, 19, 20, 21, 22, 23, 24, 25, 26, 27, 28, 29] [] [] (by kernel_rfl) (by kernel_rfl) (fun d _ _ _ _ h => by cases d <;> exact h) ?_
   simp only [List.map_cons, List.map_nil, List.getD_cons_zero, List.getD_cons_succ]; repeat (go_big_quiet_step (fail))
   refine wpQuiet_nil ?_; refine Z10 ?_; go_wp2; go_roundw; case rel => exact ⟨k + 1, by omega, by go_num, by rw [HT.out]; congr 1; simp only; omega, by (repeat first|exact J0|assumption|(apply J1;assumption)|apply J2|apply J3|apply J4)⟩
   case measure => simp [intOf]; omega
  ·obtain rfl : k = S.length := by omega
   rw [List.take_length]; go_wp2; refine bodyPost_ret (v := .int .i64 (Z72 S)) (by simp [results, Tryz.results142, go_sem]) rfl ?_
   exact ⟨rfl, Z08 hbk hbw3⟩
theorem Zsu {vL vR uL uR : Value} (a c : Pan) (at_ bt : Int) (w : World) (hL : SlE w vL a.2.2.1) (hR : SlE w vR a.2.2.2) (kL : SlE w uL c.2.2.1) (kR : SlE w uR c.2.2.2) (ha : Zas a) (hc : Zas c) (h1 : -1000000 ≤ at_ ∧ at_ ≤ 1000000) (h2 : -1000000 ≤ bt ∧ bt ≤ 1000000) :
  Calls Tryz.prog 145 #[.agg #[sV a.1, .int .i64 a.2.1, vL, vR], .int .i64 at_, .agg #[sV c.1, .int .i64 c.2.1, uL, uR], .int .i64 bt] w (RV w (.bool (Zsg (Z6y a) at_ (Z6y c) bt))) := by
 have s1 := fun W (hb : Below w.heap.size w W) => Zss a W (hL.below hb) (hR.below hb) ha
 have s2 := fun W (hb : Below w.heap.size w W) => Zss c W (kL.below hb) (kR.below hb) hc
 have n1 := Lib.hid (Zb2 ha)
 have n2 := Lib.hid (Zb2 hc)
 have l1 := Zb4 ha
 have l2 := Zb4 hc
 obtain ⟨S, hS⟩ : ∃ S, Z6y a = S := ⟨_, rfl⟩
 obtain ⟨T, hT⟩ : ∃ S, Z6y c = S := ⟨_, rfl⟩
 rw [hS] at s1 n1 l1 ⊢
 rw [hT] at s2 n2 l2 ⊢
 have HA := Lib.hid (Zsh (A := S) (B := T) (at_ := at_) (bt := bt))
 have HH := Lib.hid (fun k => Zsj (A := S) (B := T) (at_ := at_) (bt := bt) (k := k))
 have HW : Hid (∀ k, aptW S at_ T bt k = (decide ((stG T k).1 + bt < (stG S k).2.1 + at_) || (decide ((stG T k).2.2.1 + bt < (stG S k).2.2.2 + at_) || (decide ((stG S k).2.1 + at_ = (stG T k).1 + bt) && (decide ((stG S k).2.2.2 + at_ = (stG T k).2.2.1 + bt) && decide ((stG S k).2.1 ≠ (stG S k).2.2.2)))))) := fun _ => rfl
 obtain ⟨R, hR9⟩ : ∃ R, Zsg S at_ T bt = R := ⟨_, rfl⟩
 rw [hR9] at HA HH ⊢
 obtain ⟨M, hM⟩ : ∃ M, minL S T = M := ⟨_, rfl⟩
 rw [hM] at HA HH
 have hMS : M ≤ S.length := by rw [← hM]; unfold minL; omega
 have hMT : M ≤ T.length := by rw [← hM]; unfold minL; omega
 have hMM : S.length ≤ M ∨ T.length ≤ M := by rw [← hM]; unfold minL; omega
 obtain ⟨AL, cL, rfl, _, _, _⟩ := hL
 obtain ⟨AR, cR, rfl, _, _, _⟩ := hR
 obtain ⟨BL, dL, rfl, _, _, _⟩ := kL
 obtain ⟨BR, dR, rfl, _, _, _⟩ := kR
 unfold sV at s1 s2 ⊢
 have hP := (Blk.new w 86 #[.string ⟨a.1.toArray⟩, .int .i64 a.2.1, .slice AL a.2.2.1.length cL, .slice AR a.2.2.2.length cR]).alloc (.cells #[.string ⟨c.1.toArray⟩, .int .i64 c.2.1, .slice BL c.2.2.1.length dL, .slice BR c.2.2.2.length dR] 86)
 have hQ := Blk.new1 w (.cells #[.string ⟨a.1.toArray⟩, .int .i64 a.2.1, .slice AL a.2.2.1.length cL, .slice AR a.2.2.2.length cR] 86) 86 #[.string ⟨c.1.toArray⟩, .int .i64 c.2.1, .slice BL c.2.2.1.length dL, .slice BR c.2.2.2.length dR]
 have fhP := hP.facts
 have fhQ := hQ.facts
 obtain ⟨a1, a2⟩ := h1
 obtain ⟨a3, a4⟩ := h2
 clear ha hc hS hT hR9 hM
 go_enter Tryz.func145, Tryz.ntmps145
 go_upto_region 1 with fail
 obtain ⟨x1, hx1⟩ : ∃ X, (w.alloc (.cells #[.string ⟨a.1.toArray⟩, .int .i64 a.2.1, .slice AL a.2.2.1.length cL, .slice AR a.2.2.2.length cR] 86)).alloc (.cells #[.string ⟨c.1.toArray⟩, .int .i64 c.2.1, .slice BL c.2.2.1.length dL, .slice BR c.2.2.2.length dR] 86) = X := ⟨_, rfl⟩
 have hb1 : Below w.heap.size w x1 := by rw [← hx1]; exact Z04 (Z04 Z03 _) _
 rw [hx1] at hP hQ ⊢
 clear hx1 fhP fhQ
 have fhP := hP.facts
 have fhQ := hQ.facts
 refine Z0z [0, 2] [(1, false)] [3, 4, 5] (by kernel_rfl) (by kernel_rfl) (fun d _ _ _ _ h => by cases d <;> exact h) ?_
 simp only [List.map_cons, List.map_nil, List.getD_cons_zero, List.getD_cons_succ]
 repeat (go_big_quiet_step (fail))
 refine wpQuiet_nil ?_
 refine Z11 rfl (fun K hK => ?_)
 go_simp
 refine (s1 _ (by (repeat first|exact J0|assumption|(apply J1;assumption)|apply J2|apply J3|apply J4))).mono ?_
 rintro e w2 ⟨v2, rfl, hO2, hb2⟩
 refine hK _ _ (by (repeat first|exact J0|assumption|(apply J1;assumption)|apply J2|apply J3|apply J4)) ?_
 clear hK K
 have hP_w2 := hP.below (show Below _ _ w2 by (repeat first|exact J0|assumption|(apply J1;assumption)|apply J2|apply J3|apply J4))
 have fhP_w2 := hP_w2.facts
 have hQ_w2 := hQ.below (show Below _ _ w2 by (repeat first|exact J0|assumption|(apply J1;assumption)|apply J2|apply J3|apply J4))
 have fhQ_w2 := hQ_w2.facts
 obtain ⟨A2, c2, rfl⟩ := hO2.shape
 refine Z10 ?_
 go_wp2_with fail
 refine (s2 _ (by (repeat first|exact J0|assumption|(apply J1;assumption)|apply J2|apply J3|apply J4))).mono ?_
 rintro e w3 ⟨v3, rfl, hO3, hb3⟩
 obtain ⟨A3, c3, rfl⟩ := hO3.shape
 obtain ⟨_, _, he2, _, _, hr2⟩ := (hO2.below hb3).rd Z8k
 obtain ⟨rfl, rfl⟩ : A2 = _ ∧ c2 = _ := by simpa using he2
 obtain ⟨_, _, he3, _, _, hr3⟩ := hO3.rd Z8k
 obtain ⟨rfl, rfl⟩ : A3 = _ ∧ c3 = _ := by simpa using he3
 have hbw3 : Below w.heap.size w w3 := by (repeat first|exact J0|assumption|(apply J1;assumption)|apply J2|apply J3|apply J4)
 clear hP hQ fhP fhQ hP_w2 fhP_w2 hQ_w2 fhQ_w2 hb1 hb2 hb3 hO2 hO3 he2 he3 s1 s2
 go_wp2
 go_loopw [11, 12, 13, 14, 15] (fun i _ _ _ _ wr => ∃ k : Nat, k ≤ M ∧ i = .int .i64 k ∧ Hid (∀ i, i < k → aptW S at_ T bt i = false) ∧ Below w3.heap.size w3 wr) (fun i _ _ _ _ _ => M - (intOf i).toNat)
 case atStart => exact ⟨0, Nat.zero_le _, rfl, (fun i h => absurd h (Nat.not_lt_zero _)), Z03⟩
 case round =>
  obtain ⟨k, hk, rfl, HK, hbk⟩ := hrel; obtain ⟨wo, rfl⟩ : ∃ x, x = wr := ⟨_, rfl⟩
  by_cases hlt : k < M
  ·have hkS : k < S.length := by omega
   have hkT : k < T.length := by omega
   obtain ⟨b, off, rfl, hb, e0, e1, e2, e3⟩ := (hr2.below hbk).strp hkS
   obtain ⟨d, off2, rfl, hd, f0, f1, f2, f3⟩ := (hr3.below hbk).strp hkT
   have hs := n1.out _ (List.getElem_mem hkS)
   have ht := n2.out _ (List.getElem_mem hkT)
   have HWk := Lib.hid (HW.out k)
   rw [Zkk hkS, Zkk hkT] at HWk; have HHk := Lib.hid (HH.out k hlt)
   obtain ⟨⟨x0, x1, x2, x3⟩, hx⟩ : ∃ z, S[k] = z := ⟨_, rfl⟩
   obtain ⟨⟨y0, y1, y2, y3⟩, hy⟩ : ∃ z, T[k] = z := ⟨_, rfl⟩
   rw [hx] at e0 e1 e2 e3 hs HWk; rw [hy] at f0 f1 f2 f3 ht HWk; unfold Zaz at hs ht; simp only at e0 e1 e2 e3 hs ht f0 f1 f2 f3 HWk
   obtain ⟨⟨_, _⟩, ⟨_, _⟩, ⟨_, _⟩, _, _⟩ := hs; obtain ⟨⟨_, _⟩, ⟨_, _⟩, ⟨_, _⟩, _, _⟩ := ht; clear hx hy; go_upto_region 5 with fail; refine Z0z [0, 1, 2, 3, 4, 5, 6, 7, 8, 9, 10, 11, 12, 13, 14, 15, 16, 17] [] [] (by kernel_rfl) (by kernel_rfl) (fun d _ _ _ _ h => by cases d <;> exact h) ?_
   simp only [List.map_cons, List.map_nil, List.getD_cons_zero, List.getD_cons_succ]; repeat (go_big_quiet_step (fail))
   refine wpQuiet_nil ?_; refine Z10 ?_; go_upto_region 6 with fail; refine Z0z [0, 1, 2, 3, 4, 5, 6, 7, 8, 9, 10, 11, 12, 13, 14, 15, 16, 17] [] [] (by kernel_rfl) (by kernel_rfl) (fun d _ _ _ _ h => by cases d <;> exact h) ?_
   simp only [List.map_cons, List.map_nil, List.getD_cons_zero, List.getD_cons_succ]; repeat (go_big_quiet_step (fail))
   refine wpQuiet_nil ?_; refine Z10 ?_; go_upto_region 7 with fail; obtain ⟨w9, hw9⟩ : ∃ z, wo.drew.drew = z := ⟨_, rfl⟩
   obtain ⟨X, hX⟩ : ∃ z, x1 + at_ = z := ⟨_, rfl⟩
   obtain ⟨U, hU⟩ : ∃ z, x3 + at_ = z := ⟨_, rfl⟩
   obtain ⟨V, hV⟩ : ∃ z, y0 + bt = z := ⟨_, rfl⟩
   obtain ⟨Z, hZ⟩ : ∃ z, y2 + bt = z := ⟨_, rfl⟩
   have HN : decide (x1 ≠ x3) = decide (X ≠ U) := by simp; omega
   rw [HN, hX, hU, hV, hZ] at HWk; rw [hX, hU, hV, hZ]; have hbk9 : Below w3.heap.size w3 w9 := by rw [← hw9]; exact Z05 (Z05 hbk)
   rw [hw9]; have HR0 : Hid (aptW S at_ T bt k = true → R = false) := HHk.out
   have HM0 : Hid (aptW S at_ T bt k = false → ∀ i, i < k + 1 → aptW S at_ T bt i = false) := fun z i hi => by
    rcases Nat.lt_succ_iff_lt_or_eq.1 hi with h | rfl
    ·exact HK.out i h
    ·exact z
   clear hX hU hV hZ HN hw9 e0 e1 e2 e3 f0 f1 f2 f3 HHk HK HA HH HW; by_cases q1 : V < X
   ·have t1 : (V < X) = True := eq_true q1
    have HR : Hid (R = false) := HR0.out (by rw [HWk.out, decide_eq_true q1]; rfl)
    clear q1; go_wp2; go_ret; exact ⟨by rw [HR.out]; rfl, Z08 hbk9 hbw3⟩
   ·have t1 : (V < X) = False := eq_false q1
    by_cases q2 : Z < U
    ·have t2 : (Z < U) = True := eq_true q2
     have HR : Hid (R = false) := HR0.out (by rw [HWk.out, decide_eq_false q1, decide_eq_true q2]; rfl)
     clear q1 q2; go_wp2; go_ret; exact ⟨by rw [HR.out]; rfl, Z08 hbk9 hbw3⟩
    ·have t2 : (Z < U) = False := eq_false q2
     by_cases q3 : X = V
     ·have t3 : (X == V) = true := by simpa using q3
      by_cases q4 : U = Z
      ·have t4 : (U == Z) = true := by simpa using q4
       by_cases q5 : X = U
       ·have t5 : (X != U) = false := by simpa using q5
        have HM : Hid (∀ i, i < k + 1 → aptW S at_ T bt i = false) := HM0.out (by rw [HWk.out, decide_eq_false q1, decide_eq_false q2, decide_eq_false (show ¬ (X ≠ U) from fun h => h q5)]; simp)
        clear q1 q2 q3 q4 q5; go_wp2; go_roundw; case rel => exact ⟨k + 1, by omega, by go_num, HM, hbk9⟩
        case measure => simp [intOf]; omega
       ·have t5 : (X != U) = true := by simpa using q5
        have HR : Hid (R = false) := HR0.out (by rw [HWk.out, decide_eq_true q3, decide_eq_true q4, decide_eq_true (show X ≠ U from q5)]; simp)
        clear q1 q2 q3 q4 q5; go_wp2; go_ret; exact ⟨by rw [HR.out]; rfl, Z08 hbk9 hbw3⟩
      ·have t4 : (U == Z) = false := by simpa using q4
       have HM : Hid (∀ i, i < k + 1 → aptW S at_ T bt i = false) := HM0.out (by rw [HWk.out, decide_eq_false q1, decide_eq_false q2, decide_eq_false q4]; simp)
       clear q1 q2 q3 q4; go_wp2; go_roundw; case rel => exact ⟨k + 1, by omega, by go_num, HM, hbk9⟩
       case measure => simp [intOf]; omega
     ·have t3 : (X == V) = false := by simpa using q3
      have HM : Hid (∀ i, i < k + 1 → aptW S at_ T bt i = false) := HM0.out (by rw [HWk.out, decide_eq_false q1, decide_eq_false q2, decide_eq_false q3]; simp)
      clear q1 q2 q3; go_wp2; go_roundw; case rel => exact ⟨k + 1, by omega, by go_num, HM, hbk9⟩
      case measure => simp [intOf]; omega
  ·obtain rfl : k = M := by omega
   have HE : Hid (R = true) := HA.out.2 HK.out
   clear HA HK HH HW hlt; by_cases hs : S.length ≤ k
   ·have t1 : ((k : Int) < (S.length : Int)) = False := eq_false (by omega)
    have t1' : (k < S.length) = False := eq_false (by omega)
    clear hs hMM; go_wp2; go_ret; exact ⟨by rw [HE.out]; rfl, Z08 hbk hbw3⟩
   ·have t1 : ((k : Int) < (S.length : Int)) = True := eq_true (by omega)
    have t1' : (k < S.length) = True := eq_true (by omega)
    have t2 : ((k : Int) < (T.length : Int)) = False := eq_false (by omega)
    have t2' : (k < T.length) = False := eq_false (by omega)
    clear hs hMM; go_wp2; go_ret; exact ⟨by rw [HE.out]; rfl, Z08 hbk hbw3⟩
end Go.Proofs.YtpcgeihemkhkjaaGreatDoor
