/- The reference: letters, walked; strips compared. Conditions: the panel is valid. -/
import Derived.Test.YtpcgeihemkhkjaaGreatDoorS43
import Derived.Test.YtpcgeihemkhkjaaGreatDoorS23
import Derived.Test.YtpcgeihemkhkjaaGreatDoorS40
import Derived.Test.YtpcgeihemkhkjaaGreatDoorS22
namespace Go.Proofs.YtpcgeihemkhkjaaGreatDoor
open Go.RowKit Go.ChangeMaps
set_option maxHeartbeats 4000000
set_option maxRecDepth 100000
attribute [local go_sem] Oper.semAt_some
theorem Zsv {e : Edg} {x : Stp} : ∀ {n : Nat}, x ∈ timS e n → x.1 ∈ e.1
 | 0, h => by simp [timS] at h
 | n + 1, h => by
  rw [timS, List.mem_append] at h; rcases h with h | h
  ·exact Zsv h
  ·unfold Z2e at h
   obtain ⟨c, hc, rfl⟩ := List.mem_map.1 h
   exact hc
def ltr3 (c : UInt8) : Prop := c = 78 ∨ c = 66 ∨ c = 84
theorem Z3b.ltr3 {l : List Edg} (h : Z3b l) : ∀ x ∈ stpL l, Go.Proofs.YtpcgeihemkhkjaaGreatDoor.ltr3 x.1 := by
 intro x hx
 unfold stpL at hx
 obtain ⟨e, he, hx⟩ := List.mem_flatMap.1 hx
 have hm := Zsv hx
 obtain ⟨_, _, hw, _, _⟩ := Z39 (h.ok e he)
 unfold Z36 at hw
 rw [List.any_eq_false] at hw
 have := hw _ hm
 unfold Go.Proofs.YtpcgeihemkhkjaaGreatDoor.ltr3
 simp at this
 by_cases c1 : x.1 = 78
 ·exact .inl c1
 ·by_cases c2 : x.1 = 66
  ·exact .inr (.inl c2)
  ·exact .inr (.inr (this c1 c2))
theorem Zsw {l : List Stp} {k : Nat} (hk : k < l.length) (q : UInt8) : cntU (l.take (k + 1)) q = cntU (l.take k) q + if l[k].1 = q then 1 else 0 := by
 rw [List.take_succ_eq_append_getElem hk, Zie]
 by_cases h : q = l[k].1
 ·rw [if_pos h, if_pos h.symm, h]
 ·rw [if_neg h, if_neg (fun e => h e.symm)]
  rfl
theorem Zsx {vL vR : Value} (p : Pan) (w : World) (hL : SlE w vL p.2.2.1) (hR : SlE w vR p.2.2.2) (hok : Zas p) :
  Calls Tryz.prog 143 #[.agg #[sV p.1, .int .i64 p.2.1, vL, vR]] w (RV w (.agg #[.int .i64 (cntU (stpL p.2.2.1 ++ stpL p.2.2.2) 78 : Nat), .int .i64 (cntU (stpL p.2.2.1 ++ stpL p.2.2.2) 66 : Nat), .int .i64 (cntU (stpL p.2.2.1 ++ stpL p.2.2.2) 84 : Nat)])) := by
 have sL := fun W (hb : Below w.heap.size w W) => Zcl p.2.2.1 W (hL.below hb) hok.left
 have sR := fun W (hb : Below w.heap.size w W) => Zcl p.2.2.2 W (hR.below hb) hok.right
 have hlt : ∀ x ∈ stpL p.2.2.1 ++ stpL p.2.2.2, ltr3 x.1 := fun x hx => by
  rcases List.mem_append.1 hx with h | h
  ·exact hok.left.ltr3 x h
  ·exact hok.right.ltr3 x h
 have n1 := hok.left.len
 have n2 := hok.right.len
 obtain ⟨AL, cL, rfl, _, _, _⟩ := hL
 obtain ⟨AR, cR, rfl, _, _, _⟩ := hR
 unfold sV
 have hP := ((Blk.new w 86 #[.string ⟨p.1.toArray⟩, .int .i64 p.2.1, .slice AL p.2.2.1.length cL, .slice AR p.2.2.2.length cR]).alloc (.cells #[.int .i64 0, .int .i64 0, .int .i64 0] 215)).alloc (.cells #[.int .i64 0, .int .i64 0, .int .i64 0] 215)
 have hZ := (Blk.new1 w (.cells #[.string ⟨p.1.toArray⟩, .int .i64 p.2.1, .slice AL p.2.2.1.length cL, .slice AR p.2.2.2.length cR] 86) 215 #[.int .i64 0, .int .i64 0, .int .i64 0]).alloc (.cells #[.int .i64 0, .int .i64 0, .int .i64 0] 215)
 have hX := Blk.new2 w (.cells #[.string ⟨p.1.toArray⟩, .int .i64 p.2.1, .slice AL p.2.2.1.length cL, .slice AR p.2.2.2.length cR] 86) (.cells #[.int .i64 0, .int .i64 0, .int .i64 0] 215) 215 #[.int .i64 0, .int .i64 0, .int .i64 0]
 have hb1 : Below w.heap.size w (((w.alloc (.cells #[.string ⟨p.1.toArray⟩, .int .i64 p.2.1, .slice AL p.2.2.1.length cL, .slice AR p.2.2.2.length cR] 86)).alloc (.cells #[.int .i64 0, .int .i64 0, .int .i64 0] 215)).alloc (.cells #[.int .i64 0, .int .i64 0, .int .i64 0] 215)) := Z04 (Z04 (Z04 Z03 _) _) _
 obtain ⟨S1, hS1⟩ : ∃ S, stpL p.2.2.1 = S := ⟨_, rfl⟩
 obtain ⟨S2, hS2⟩ : ∃ S, stpL p.2.2.2 = S := ⟨_, rfl⟩
 rw [hS1] at sL hlt n1 ⊢
 rw [hS2] at sR hlt n2 ⊢
 clear hS1 hS2 hok
 go_enter Tryz.func143, Tryz.ntmps143
 go_upto_region 2 with fail
 obtain ⟨w1, hw1⟩ : ∃ X, ((w.alloc (.cells #[.string ⟨p.1.toArray⟩, .int .i64 p.2.1, .slice AL p.2.2.1.length cL, .slice AR p.2.2.2.length cR] 86)).alloc (.cells #[.int .i64 0, .int .i64 0, .int .i64 0] 215)).alloc (.cells #[.int .i64 0, .int .i64 0, .int .i64 0] 215) = X := ⟨_, rfl⟩
 rw [hw1] at hP hZ hX hb1 ⊢
 clear hw1
 have fP := hP.facts
 refine Z0z [0, 1, 3, 4] [(2, false)] [5, 6, 7] (by kernel_rfl) (by kernel_rfl) (fun d _ _ _ _ h => by cases d <;> exact h) ?_
 simp only [List.map_cons, List.map_nil, List.getD_cons_zero, List.getD_cons_succ]
 repeat (go_big_quiet_step (fail))
 refine wpQuiet_nil ?_
 refine Z11 rfl (fun K hK => ?_)
 go_simp
 refine (sL _ (by (repeat first|exact J0|assumption|(apply J1;assumption)|apply J2|apply J3|apply J4))).mono ?_
 rintro e w2 ⟨v2, rfl, hO2, hb2⟩
 refine hK _ _ (by (repeat first|exact J0|assumption|(apply J1;assumption)|apply J2|apply J3|apply J4)) ?_
 clear hK K
 have hP_w2 := hP.below (show Below _ _ w2 by (repeat first|exact J0|assumption|(apply J1;assumption)|apply J2|apply J3|apply J4))
 have fhP_w2 := hP_w2.facts
 refine Z10 ?_
 go_wp2_with (first | (go_at_call 98; refine (sR _ (by (repeat first|exact J0|assumption|(apply J1;assumption)|apply J2|apply J3|apply J4))).mono ?_; rintro e w3 ⟨v3, rfl, hO3, hb3⟩; have hO23 := hO2.below hb3; have hz13 := (show Below w1.heap.size w1 w3 by (repeat first|exact J0|assumption|(apply J1;assumption)|apply J2|apply J3|apply J4)).size) | (at_builtin; refine Z3y rfl Z8q Z8j Z8m _ _ rfl w1.heap.size _ _ S1 S2 rfl rfl (hO23.base_mono (by simp)) (hO3.rd Z8j) (by simp [maxLen]; omega) (by omega) hz13 ?_; intro v4 w4 hO4 hgr4))
 obtain ⟨A4, c4, rfl, _, _, hr4⟩ := hO4.rd Z8j
 have hb34 : Below w1.heap.size w1 w4 := Z09 hgr4 (show Below w1.heap.size w1 w3 by (repeat first|exact J0|assumption|(apply J1;assumption)|apply J2|apply J3|apply J4)) (fun j e => by have h1 := (hO23.lt j e).1; simp at h1; exact h1)
 have hbw4 : Below w.heap.size w w4 := Z08 hb34 hb1
 have hZ4 := hZ.below hb34
 have hX4 := hX.below hb34
 obtain ⟨L0, hL0⟩ : ∃ L, S1 ++ S2 = L := ⟨_, rfl⟩
 have hll : L0.length ≤ 1024 := by rw [← hL0]; simp; omega
 have hlo : ∀ b off, A4 = some ⟨b, off, none⟩ → w.heap.size + 1 + 1 ≠ b := fun b off e => by
  subst e; have h1 := (hO4.lt b rfl).1
  have h2 := hX.lt
  omega
 have HL0 := Lib.hid hL0
 rw [hL0] at hr4 hlt ⊢
 clear hL0 hO4 hgr4 hO23 hO2 hO3 hb2 hb3 sL sR hP fP hP_w2 fhP_w2 hZ hX hb1 hb34
 go_loopw [5] (fun i wr => ∃ k : Nat, k ≤ L0.length ∧ i = .int .i64 k ∧ Blk wr (w.heap.size + 1 + 1) 215 #[.int .i64 (cntU (L0.take k) 78 : Nat), .int .i64 (cntU (L0.take k) 66 : Nat), .int .i64 (cntU (L0.take k) 84 : Nat)] ∧ Chg [w.heap.size + 1 + 1] w4 wr) (fun i _ => L0.length - (intOf i).toNat)
 case atStart => exact ⟨0, Nat.zero_le _, rfl, by simpa [cntU] using hX4, Chg.refl⟩
 case round =>
  obtain ⟨k, hk, rfl, hX, hc⟩ := hrel; obtain ⟨wo, rfl⟩ : ∃ x, x = wr := ⟨_, rfl⟩
  by_cases hlt' : k < L0.length
  ·obtain ⟨b, off, rfl, hb, e0, e1⟩ := (hr4.chgN hc (fun b off e => by have := hlo b off e; simp; exact fun h => this h.symm)).stp hlt'
   have hl3 := hlt _ (List.getElem_mem hlt')
   have b78 := Zif (L0.take k) 78
   have b66 := Zif (L0.take k) 66
   have b84 := Zif (L0.take k) 84
   have htk : (L0.take k).length ≤ 1024 := by simp; omega
   rcases hl3 with hd | hd | hd
   ·have e78 : cntU (L0.take (k + 1)) 78 = cntU (L0.take k) 78 + 1 := by rw [Zsw hlt', hd]; rfl
    have e66 : cntU (L0.take (k + 1)) 66 = cntU (L0.take k) 66 + 0 := by rw [Zsw hlt', hd, if_neg (by decide)]
    have e84 : cntU (L0.take (k + 1)) 84 = cntU (L0.take k) 84 + 0 := by rw [Zsw hlt', hd, if_neg (by decide)]
    have E78 := Lib.hid e78
    have E66 := Lib.hid e66
    have E84 := Lib.hid e84
    rw [hd] at e0; have e0' : wo.cell? ⟨b, off + k * 2, none⟩ = some (.int .u8 78) := e0
    clear e0 e78 e66 e84 hd; obtain ⟨a, ha⟩ : ∃ a, cntU (L0.take k) 78 = a := ⟨_, rfl⟩
    obtain ⟨d, hd⟩ : ∃ a, cntU (L0.take k) 66 = a := ⟨_, rfl⟩
    obtain ⟨f, hf⟩ : ∃ a, cntU (L0.take k) 84 = a := ⟨_, rfl⟩
    rw [ha] at hX E78 b78; rw [hd] at hX E66 b66; rw [hf] at hX E84 b84; clear ha hd hf; have fX := hX.facts
    go_wp2; have hX2 := hX.set_ 0 (.int .i64 ((a : Int) + 1))
    have hc2 : Chg [w.heap.size + 1 + 1] w4 (wo.setCell ⟨w.heap.size + 1 + 1, 0, none⟩ (.int .i64 ((a : Int) + 1))) := hc.setIn (p := ⟨w.heap.size + 1 + 1, 0, none⟩) (by simp) _
    go_roundw; case rel => exact ⟨k + 1, by omega, by go_num, by rw [E78.out, E66.out, E84.out]; simpa using hX2, hc2⟩
    case measure => simp [intOf]; omega
   ·have e78 : cntU (L0.take (k + 1)) 78 = cntU (L0.take k) 78 + 0 := by rw [Zsw hlt', hd, if_neg (by decide)]
    have e66 : cntU (L0.take (k + 1)) 66 = cntU (L0.take k) 66 + 1 := by rw [Zsw hlt', hd]; rfl
    have e84 : cntU (L0.take (k + 1)) 84 = cntU (L0.take k) 84 + 0 := by rw [Zsw hlt', hd, if_neg (by decide)]
    have E78 := Lib.hid e78
    have E66 := Lib.hid e66
    have E84 := Lib.hid e84
    rw [hd] at e0; have e0' : wo.cell? ⟨b, off + k * 2, none⟩ = some (.int .u8 66) := e0
    clear e0 e78 e66 e84 hd; obtain ⟨a, ha⟩ : ∃ a, cntU (L0.take k) 78 = a := ⟨_, rfl⟩
    obtain ⟨d, hd⟩ : ∃ a, cntU (L0.take k) 66 = a := ⟨_, rfl⟩
    obtain ⟨f, hf⟩ : ∃ a, cntU (L0.take k) 84 = a := ⟨_, rfl⟩
    rw [ha] at hX E78 b78; rw [hd] at hX E66 b66; rw [hf] at hX E84 b84; clear ha hd hf; have fX := hX.facts
    go_wp2; have hX2 := hX.set_ 1 (.int .i64 ((d : Int) + 1))
    have hc2 : Chg [w.heap.size + 1 + 1] w4 (wo.setCell ⟨w.heap.size + 1 + 1, 1, none⟩ (.int .i64 ((d : Int) + 1))) := hc.setIn (p := ⟨w.heap.size + 1 + 1, 1, none⟩) (by simp) _
    go_roundw; case rel => exact ⟨k + 1, by omega, by go_num, by rw [E78.out, E66.out, E84.out]; simpa using hX2, hc2⟩
    case measure => simp [intOf]; omega
   ·have e78 : cntU (L0.take (k + 1)) 78 = cntU (L0.take k) 78 + 0 := by rw [Zsw hlt', hd, if_neg (by decide)]
    have e66 : cntU (L0.take (k + 1)) 66 = cntU (L0.take k) 66 + 0 := by rw [Zsw hlt', hd, if_neg (by decide)]
    have e84 : cntU (L0.take (k + 1)) 84 = cntU (L0.take k) 84 + 1 := by rw [Zsw hlt', hd]; rfl
    have E78 := Lib.hid e78
    have E66 := Lib.hid e66
    have E84 := Lib.hid e84
    rw [hd] at e0; have e0' : wo.cell? ⟨b, off + k * 2, none⟩ = some (.int .u8 84) := e0
    clear e0 e78 e66 e84 hd; obtain ⟨a, ha⟩ : ∃ a, cntU (L0.take k) 78 = a := ⟨_, rfl⟩
    obtain ⟨d, hd⟩ : ∃ a, cntU (L0.take k) 66 = a := ⟨_, rfl⟩
    obtain ⟨f, hf⟩ : ∃ a, cntU (L0.take k) 84 = a := ⟨_, rfl⟩
    rw [ha] at hX E78 b78; rw [hd] at hX E66 b66; rw [hf] at hX E84 b84; clear ha hd hf; have fX := hX.facts
    go_wp2; have hX2 := hX.set_ 2 (.int .i64 ((f : Int) + 1))
    have hc2 : Chg [w.heap.size + 1 + 1] w4 (wo.setCell ⟨w.heap.size + 1 + 1, 2, none⟩ (.int .i64 ((f : Int) + 1))) := hc.setIn (p := ⟨w.heap.size + 1 + 1, 2, none⟩) (by simp) _
    go_roundw; case rel => exact ⟨k + 1, by omega, by go_num, by rw [E78.out, E66.out, E84.out]; simpa using hX2, hc2⟩
    case measure => simp [intOf]; omega
  ·obtain rfl : k = L0.length := by omega
   rw [List.take_length] at hX; have hZ5 := hZ4.chg hc (by simp)
   have fX := hX.facts
   go_wp2_with (refine Z4n hZ5 rfl _ _ _ rfl rfl rfl (by rfl) (by kernel_rfl) (by kernel_rfl) ?_; intro w6 hZ6 hc6; have f6 := hZ6.facts)
   have hb6 : Below w.heap.size w w6 := Z9f (Z9f hbw4 hc (by omega)) hc6 (by omega)
   refine bodyPost_ret (v := .agg #[.int .i64 (cntU L0 78 : Nat), .int .i64 (cntU L0 66 : Nat), .int .i64 (cntU L0 84 : Nat)]) (by simp [results, Tryz.results143, go_sem, f6]) rfl ?_
   exact ⟨by rw [HL0.out], hb6⟩
@[go_sem] theorem idx3_b (a b c : Int) (w : World) : (Instr.index 215 (.agg #[.int .i64 a, .int .i64 b, .int .i64 c]) (.int .i64 1)).run Tryz.prog w = .ok (.int .i64 b) w := by kernel_rfl
theorem Zsy {vL vR : Value} (p : Pan) (w : World) (hL : SlE w vL p.2.2.1) (hR : SlE w vR p.2.2.2) (hok : Zas p) :
  Calls Tryz.prog 77 #[.agg #[sV p.1, .int .i64 p.2.1, vL, vR]] w (RV w (.int .i64 (barN p))) := by
 have c1 := fun W (hb : Below w.heap.size w W) => Zst p W (hL.below hb) (hR.below hb) hok
 have c2 := fun W (hb : Below w.heap.size w W) => Zsx p W (hL.below hb) (hR.below hb) hok
 have hn := Zb6 (Zb2 hok) (Z6y p).length (Nat.le_refl _)
 rw [List.take_length] at hn
 have hl := Zb4 hok
 have hc := Zif (stpL p.2.2.1 ++ stpL p.2.2.2) 66
 have h3 := hok.left.len
 have h4 := hok.right.len
 rw [List.length_append] at hc
 have HB : Hid (barN p = (Z72 (Z6y p) + ((cntU (stpL p.2.2.1 ++ stpL p.2.2.2) 66 : Nat) : Int)).tdiv 2) := rfl
 obtain ⟨x, hx⟩ : ∃ x, Z72 (Z6y p) = x := ⟨_, rfl⟩
 rw [hx] at c1 hn HB
 obtain ⟨y, hy⟩ : ∃ y, cntU (stpL p.2.2.1 ++ stpL p.2.2.2) 66 = y := ⟨_, rfl⟩
 rw [hy] at c2 hc HB
 obtain ⟨x1, hx1⟩ : ∃ y, cntU (stpL p.2.2.1 ++ stpL p.2.2.2) 78 = y := ⟨_, rfl⟩
 obtain ⟨x2, hx2⟩ : ∃ y, cntU (stpL p.2.2.1 ++ stpL p.2.2.2) 84 = y := ⟨_, rfl⟩
 rw [hx1, hx2] at c2
 have n1 : -200000000 ≤ x := by omega
 have n2 : x ≤ 200000000 := by omega
 have n3 : (y : Int) ≤ 2048 := by omega
 clear hn hl hc h3 h4 hx hy hx1 hx2 hok
 obtain ⟨AL, cL, rfl, _, _, _⟩ := hL
 obtain ⟨AR, cR, rfl, _, _, _⟩ := hR
 unfold sV at c1 c2 ⊢
 have hP := Blk.new w 86 #[.string ⟨p.1.toArray⟩, .int .i64 p.2.1, .slice AL p.2.2.1.length cL, .slice AR p.2.2.2.length cR]
 have fP := hP.facts
 go_enter Tryz.func77, Tryz.ntmps77
 go_upto_region 1 with fail
 refine Z0z [0, 2] [(1, false)] [3, 4, 5, 6, 7] (by kernel_rfl) (by kernel_rfl) (fun d _ _ _ _ h => by cases d <;> exact h) ?_
 simp only [List.map_cons, List.map_nil, List.getD_cons_zero, List.getD_cons_succ]
 repeat (go_big_quiet_step (fail))
 refine wpQuiet_nil ?_
 refine Z11 rfl (fun K hK => ?_)
 go_simp
 refine (c1 _ (by (repeat first|exact J0|assumption|(apply J1;assumption)|apply J2|apply J3|apply J4))).mono ?_
 rintro e w2 ⟨rfl, hb2⟩
 refine hK _ _ (by (repeat first|exact J0|assumption|(apply J1;assumption)|apply J2|apply J3|apply J4)) ?_
 clear hK K
 have hP_w2 := hP.below (show Below _ _ w2 by (repeat first|exact J0|assumption|(apply J1;assumption)|apply J2|apply J3|apply J4))
 have fhP_w2 := hP_w2.facts
 refine Z10 ?_
 go_wp2_with fail
 refine (c2 _ (by (repeat first|exact J0|assumption|(apply J1;assumption)|apply J2|apply J3|apply J4))).mono ?_
 rintro e w3 ⟨rfl, hb3⟩
 go_wp2
 go_ret
 exact ⟨by rw [HB.out]; rfl, by (repeat first|exact J0|assumption|(apply J1;assumption)|apply J2|apply J3|apply J4)⟩
theorem Zsz {l : List Edg} {n : Nat} (h : ∀ e ∈ l, e.1.length ≤ n) : ∀ e ∈ oppL l, e.1.length ≤ n := by
 intro e he
 unfold oppL at he
 obtain ⟨f, hf, rfl⟩ := List.mem_map.1 he
 have := h f (List.mem_reverse.1 hf)
 unfold oppE
 simpa using this
theorem rcheckPieces_any {v : Value} (l : List Pan) (w : World) (h : SlP w v l) (hnm : ∀ p ∈ l, p.1.length ≤ 1000000) (hwd : ∀ p ∈ l, (∀ e ∈ p.2.2.1, e.1.length ≤ 1000000) ∧ ∀ e ∈ p.2.2.2, e.1.length ≤ 1000000) (hll : l.length ≤ 100000) :
  Calls Tryz.prog 23 #[v] w (RV w (.int .i64 (pieE l))) := by
 obtain ⟨xs, ⟨A, c, rfl, hlc, hcm, hr⟩, hx⟩ := h
 have HLN := Lib.hid hx.len
 have hl1 : xs.length ≤ l.length := Nat.le_of_eq HLN.out
 have hl2 : l.length ≤ xs.length := Nat.le_of_eq HLN.out.symm
 have hHN := Lib.hid hnm
 have hHW := Lib.hid hwd
 clear hnm hwd
 by_cases h16 : 16 < l.length
 ·have HE : Hid (pieE l = 5) := by unfold Hid pieE; rw [if_pos h16]
  have t1 : (16 < xs.length) = True := eq_true (by omega)
  have t2 : (16 < (xs.length : Int)) = True := eq_true (by omega)
  clear h16; go_enter Tryz.func23, Tryz.ntmps23
  go_wp2; go_ret; exact ⟨by rw [HE.out]; rfl, by (repeat first|exact J0|assumption|(apply J1;assumption)|apply J2|apply J3|apply J4)⟩
 ·have HE : Hid (pieE l = pieG (l.take 0) (l.drop 0)) := by unfold Hid pieE; rw [if_neg h16]; rfl
  have t1 : (16 < xs.length) = False := eq_false (by omega)
  have t2 : (16 < (xs.length : Int)) = False := eq_false (by omega)
  have hl16 : xs.length ≤ 16 := by omega
  clear h16; go_enter Tryz.func23, Tryz.ntmps23
  go_wp2; go_loopw [3] (fun s wr => ∃ k : Nat, k ≤ xs.length ∧ s = .int .i64 k ∧ Hid (pieE l = pieG (l.take k) (l.drop k)) ∧ Below w.heap.size w wr) (fun s _ => xs.length - (intOf s).toNat)
  case atStart => exact ⟨0, Nat.zero_le _, rfl, HE, Z03⟩
  case round =>
   clear t1 t2 HE; obtain ⟨k, hk, rfl, HK, hbw⟩ := hrel; obtain ⟨wo, rfl⟩ : ∃ x, x = wr := ⟨_, rfl⟩
   by_cases hlt : k < xs.length
   ·have hkl : k < l.length := by omega
    have hp := (hx.below hbw).get (List.getElem?_eq_getElem hlt) (List.getElem?_eq_getElem hkl)
    have hnk := hHN.out _ (List.getElem_mem hkl)
    obtain ⟨hwl, hwr⟩ := hHW.out _ (List.getElem_mem hkl)
    have HF := Lib.hid (Zlx hkl)
    obtain ⟨b, off, rfl, hb, e0, e1, e2, e3⟩ := (hr.below hbw).pan (List.getElem?_eq_getElem hlt)
    obtain ⟨p, hpe⟩ : ∃ p, l[k] = p := ⟨_, rfl⟩
    rw [hpe] at hp hnk hwl hwr HF; obtain ⟨x, hxe⟩ : ∃ x, xs[k] = x := ⟨_, rfl⟩
    rw [hxe] at hp e0 e1 e2 e3; rw [hp.nm] at e0; rw [hp.wd] at e1; have hSL := hp.left
    have hSR := hp.right
    obtain ⟨vL, hvL⟩ : ∃ v, slV x.2.2.1 = v := ⟨_, rfl⟩
    obtain ⟨vR, hvR⟩ : ∃ v, slV x.2.2.2 = v := ⟨_, rfl⟩
    rw [hvL] at e2 hSL; rw [hvR] at e3 hSR; have cCP := fun W (hb : Below wo.heap.size wo W) => Zi4 p W hnk (hSL.below hb) (hSR.below hb) hwl hwr
    have HTB := Lib.hid (fun (hok : Zas p) W (hb : Below wo.heap.size wo W) => (⟨Zia p W (hSL.below hb) (hSR.below hb) hok, Zsy p W (hSL.below hb) (hSR.below hb) hok⟩ : _ ∧ _))
    have HT2 := Lib.hid (fun W (uL uR : Value) (hL : SlE W uL (oppL p.2.2.2)) (hR : SlE W uR (oppL p.2.2.1)) => Zi4 (trnP p) W hnk hL hR (Zsz hwr) (Zsz hwl))
    have H0 := Lib.hid (Zsn l p)
    have HX : Hid (l[k].1 = p.1) := by unfold Hid; rw [hpe]
    have HOK : Hid (∀ D, Zly D p = 0 → panE p = 0) := fun D z => (Zm1 z).1
    obtain ⟨E0, hE0⟩ : ∃ z, panE p = z := ⟨_, rfl⟩
    have HE0 := Lib.hid hE0
    rw [hE0] at cCP H0; have hb' : b < wo.heap.size := hb
    unfold sV at e0 cCP; clear hp hxe hnk hwl hwr hvL hvR hE0 hSL hSR hpe; go_upto_region 6 with fail; go_wp2_with fail; refine (cCP _ (by (repeat first|exact J0|assumption|(apply J1;assumption)|apply J2|apply J3|apply J4))).mono ?_
    rintro e w3 ⟨rfl, hb3⟩; have hbw3 := Z08 hb3 hbw
    have c0 := (hb3.cell (p := ⟨b, off + k * 4, none⟩) hb').trans e0
    have c1 := (hb3.cell (p := ⟨b, off + k * 4 + 1, none⟩) hb').trans e1
    have c2 := (hb3.cell (p := ⟨b, off + k * 4 + 2, none⟩) hb').trans e2
    have c3 := (hb3.cell (p := ⟨b, off + k * 4 + 3, none⟩) hb').trans e3
    have hb3' : b < w3.heap.size := Nat.lt_of_lt_of_le hb' hb3.size
    go_wp2_with fail; go_loopw [4, 5] (fun e i wr => ∃ j : Nat, j ≤ k ∧ i = .int .i64 j ∧ e = .int .i64 (Zly (l.take j) p) ∧ Below w3.heap.size w3 wr) (fun _ i _ => k - (intOf i).toNat)
    case atStart => exact ⟨0, Nat.zero_le _, rfl, by rw [H0.out], Z03⟩
    case round =>
     clear H0 e0 e1 e2 e3 hb; obtain ⟨j, hj, rfl, rfl, hb4⟩ := hrel; obtain ⟨wi, rfl⟩ : ∃ x, x = wr := ⟨_, rfl⟩
     have hbi := Z08 hb4 hbw3
     have HE1 : Hid (Zly (l.take j) p ≠ 0 → Zly (l.take k) p = Zly (l.take j) p) := Zsm hj (Nat.le_of_lt hkl)
     have HS1 : Hid (∀ hh : j < l.length, Zly (l.take j) p = 0 → Zly (l.take (j + 1)) p = if l[j].1 = p.1 then 9 else 0) := fun hh z => Zsl hh _ z
     have HJ : Hid (j = k → Zly (l.take k) p = Zly (l.take j) p) := fun z => by rw [z]
     have HO1 : Hid (Zly (l.take j) p = 0 → panE p = 0) := fun z => HOK.out _ z
     obtain ⟨E, hE⟩ : ∃ z, Zly (l.take j) p = z := ⟨_, rfl⟩
     rw [hE] at HE1 HS1 HJ HO1 ⊢; clear hE
     have fin : Zly (l.take k) p = E → E ≠ 0 → Hid (pieE l = E) := fun z y => by
      unfold Hid; rw [HK.out, HF.out, Zm0, z, if_neg y, if_neg y]
     have fin0 : Zly (l.take k) p = 0 → panE p = 0 → Hid (pieE l = if Zso p = 0 then pieG (l.take (k + 1)) (l.drop (k + 1)) else Zso p) := fun z y => by
      unfold Hid; rw [HK.out, HF.out, Zm0, z, if_pos rfl, Zsp y]
     have d0 := (hb4.cell (p := ⟨b, off + k * 4, none⟩) hb3').trans c0
     have d1 := (hb4.cell (p := ⟨b, off + k * 4 + 1, none⟩) hb3').trans c1
     have d2 := (hb4.cell (p := ⟨b, off + k * 4 + 2, none⟩) hb3').trans c2
     have d3 := (hb4.cell (p := ⟨b, off + k * 4 + 3, none⟩) hb3').trans c3
     by_cases hjk : j < k
     ·by_cases hz : E = 0
      ·have t0 : (E == 0) = true := by simp [hz]
       have hjl : j < l.length := by omega
       have hjx : j < xs.length := by omega
       have hp2 := (hx.below hbi).get (List.getElem?_eq_getElem hjx) (List.getElem?_eq_getElem hjl)
       obtain ⟨b2, o2, eA, hb2, f0, f1, f2, f3⟩ := (hr.below hbi).pan (List.getElem?_eq_getElem hjx)
       obtain ⟨rfl, rfl⟩ : b = b2 ∧ off = o2 := by simpa using eA
       have hst := Lib.hid (HS1.out hjl hz)
       rw [hp2.nm] at f0; unfold sV at f0; obtain ⟨y0, hy⟩ : ∃ z, l[j].1 = z := ⟨_, rfl⟩
       rw [hy] at f0 hst; have HZ : Hid (E = 0) := hz
       clear hy hp2 HS1 HE1 HJ HO1 fin fin0 hz hjl hjx f1 f2 f3 eA d1 d2 d3; go_upto_region 10 with fail; refine Z0z [0, 1, 2, 3, 4, 5, 6, 7, 8, 9, 10] [] [] (by kernel_rfl) (by kernel_rfl) (fun d _ _ _ _ h => by cases d <;> exact h) ?_
       simp only [List.map_cons, List.map_nil, List.getD_cons_zero, List.getD_cons_succ]; repeat (go_big_quiet_step (fail))
       refine wpQuiet_nil ?_; refine Z10 ?_; go_wp2
       ·rename_i hn
        go_roundw; case rel => exact ⟨j + 1, by omega, by go_num, by rw [hst.out, if_pos (by simpa using hn)], by (repeat first|exact J0|assumption|(apply J1;assumption)|apply J2|apply J3|apply J4)⟩
        case measure => simp [intOf]; omega
       ·rename_i hn
        go_roundw; case rel => exact ⟨j + 1, by omega, by go_num, by rw [hst.out, if_neg (by simpa using hn), HZ.out], by (repeat first|exact J0|assumption|(apply J1;assumption)|apply J2|apply J3|apply J4)⟩
        case measure => simp [intOf]; omega
      ·have HE := fin (HE1.out hz) hz
       have t0 : (E == 0) = false := by simp [hz]
       have t1 : (E != 0) = true := by simp [hz]
       clear hz HE1 HS1 HJ HO1 fin fin0; go_wp2; go_ret; exact ⟨by rw [HE.out]; rfl, hbi⟩
     ·obtain rfl : j = k := by omega
      by_cases hz : E = 0
      ·have hz0 : panE p = 0 := HO1.out hz
       have HP := fin0 (by rw [HJ.out rfl, hz]) hz0
       have hok := Zaw hz0
       have cT := fun W hb => (HTB.out hok W hb).1
       have cB := fun W hb => (HTB.out hok W hb).2
       obtain ⟨tw, htw⟩ : ∃ z, (topX p true - topX p false).tdiv 2 = z := ⟨_, rfl⟩
       have HTR : Hid (trnP p = (p.1, tw, oppL p.2.2.2, oppL p.2.2.1)) := by unfold Hid trnP; rw [htw]
       rw [htw] at cT; have cT2 := HT2.out
       rw [HTR.out] at cT2; have HPC : Hid (Zso p = if panE (trnP p) = 0 then (if 4096 < barN p then 5 else 0) else panE (trnP p)) := rfl
       rw [HTR.out] at HPC; obtain ⟨F, hF⟩ : ∃ z, panE (p.1, tw, oppL p.2.2.2, oppL p.2.2.1) = z := ⟨_, rfl⟩
       rw [hF] at cT2 HPC; obtain ⟨N, hN⟩ : ∃ z, barN p = z := ⟨_, rfl⟩
       rw [hN] at cB HPC; have t0 : (E == 0) = true := by simp [hz]
       unfold sV at cT cB cT2; simp only at cT2
       have hbo := Z08 hb4 hb3
       clear hz HE1 HS1 HJ HO1 fin fin0 hz0 hok htw hF hN; go_wp2_with fail; refine (cT _ hbo).mono ?_
       rintro e w5 ⟨xL, xR, rfl, oL5, oR5, hb5⟩; go_wp2_with fail; refine (cT2 _ _ _ (oL5.rd Z8i) (oR5.rd Z8i)).mono ?_
       rintro e w6 ⟨rfl, hb6⟩; have hb46 := Z08 hb6 hb5
       have hbi6 := Z08 hb46 hbi
       have g0 := (hb46.cell (p := ⟨b, off + j * 4, none⟩) (Nat.lt_of_lt_of_le hb3' hb4.size)).trans d0
       have g1 := (hb46.cell (p := ⟨b, off + j * 4 + 1, none⟩) (Nat.lt_of_lt_of_le hb3' hb4.size)).trans d1
       have g2 := (hb46.cell (p := ⟨b, off + j * 4 + 2, none⟩) (Nat.lt_of_lt_of_le hb3' hb4.size)).trans d2
       have g3 := (hb46.cell (p := ⟨b, off + j * 4 + 3, none⟩) (Nat.lt_of_lt_of_le hb3' hb4.size)).trans d3
       by_cases hz : F = 0
       ·have t2 : (F == 0) = true := by simp [hz]
        have t3 : (F != 0) = false := by simp [hz]
        have HP2 : Hid (Zso p = if 4096 < N then 5 else 0) := by unfold Hid; rw [HPC.out, if_pos hz]
        clear hz HPC; go_wp2_with fail; refine (cB _ (Z08 hb46 hbo)).mono ?_
        rintro e w7 ⟨rfl, hb7⟩; by_cases h4 : 4096 < N
        ·have t4 : (4096 < N) = True := eq_true h4
         have HE : Hid (pieE l = 5) := by unfold Hid; rw [HP.out, HP2.out, if_pos h4]; rfl
         clear h4 HP HP2; go_wp2; go_ret; exact ⟨by rw [HE.out]; rfl, Z08 hb7 hbi6⟩
        ·have t4 : (4096 < N) = False := eq_false h4
         have HE : Hid (pieE l = pieG (l.take (j + 1)) (l.drop (j + 1))) := by unfold Hid; rw [HP.out, HP2.out, if_neg h4, if_pos rfl]
         clear h4 HP HP2; go_wp2; go_roundw; case rel => exact ⟨j + 1, by omega, by go_num, HE, Z08 hb7 hbi6⟩
         case measure => simp [intOf]; omega
       ·have t2 : (F == 0) = false := by simp [hz]
        have t3 : (F != 0) = true := by simp [hz]
        have HE : Hid (pieE l = F) := by unfold Hid; rw [HP.out, HPC.out, if_neg hz, if_neg hz]
        clear hz HP HPC; go_wp2; go_ret; exact ⟨by rw [HE.out]; rfl, hbi6⟩
      ·have HE := fin (HJ.out rfl) hz
       have t0 : (E == 0) = false := by simp [hz]
       have t1 : (E != 0) = true := by simp [hz]
       clear hz HE1 HS1 HJ HO1 fin fin0; go_wp2; go_ret; exact ⟨by rw [HE.out]; rfl, hbi⟩
   ·obtain rfl : k = xs.length := by omega
    have HE : Hid (pieE l = 0) := by unfold Hid; rw [HK.out, List.drop_of_length_le (by omega)]; rfl
    go_wp2; go_ret; exact ⟨by rw [HE.out]; rfl, hbw⟩
end Go.Proofs.YtpcgeihemkhkjaaGreatDoor
