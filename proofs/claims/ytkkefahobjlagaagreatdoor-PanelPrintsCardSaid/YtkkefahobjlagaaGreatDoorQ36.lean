/- Letters, walked. Conditions: none. -/
import Derived.Test.YtkkefahobjlagaaGreatDoorQ28
import Derived.Test.YtkkefahobjlagaaGreatDoorQ08
import Derived.LoopNIn
import Derived.Test.YtkkefahobjlagaaGreatDoorQ34
import Derived.Test.YtkkefahobjlagaaGreatDoorQ35
namespace Go.Proofs.YtkkefahobjlagaaGreatDoor
open Go.RowKit Go.ChangeMaps
set_option maxHeartbeats 4000000
set_option maxRecDepth 100000
attribute [local go_sem] Oper.semAt_some
def uk (c : UInt8) : Value := .int .u8 c.toNat
theorem ck_u8 (e : Bool) (a : UInt8) (w : World) : (Instr.checkKey e 10000 5 (uk a)).run Tryz.prog w = .ok () w := by
 have h : Tryz.prog.underlying 5 = some (.int .u8) := by kernel_rfl
 unfold uk
 rw [Instr.checkKey]
 simp only [Sem.run_bind, run_underlying h, Result.andThen_ok]
 rfl
theorem u8_ne {a b : UInt8} : ((a.toNat : Int) == (b.toNat : Int)) = decide (a = b) := by
 by_cases h : a = b
 ·subst h; simp
 ·have : a.toNat ≠ b.toNat := fun e => h (UInt8.toNat_inj.1 e)
  have h2 : ¬((a.toNat : Int) = (b.toNat : Int)) := fun e => this (by omega)
  simp [h, h2]
theorem u8_key : KeyLaw Tryz.prog 5 uk where
 und := ⟨.int .u8, by kernel_rfl, .inr fun a b => by simp only [Instr.sameNow, uk, u8_ne]; rfl⟩
 eq a b w := by
  have h : Tryz.prog.underlying 5 = some (.int .u8) := by kernel_rfl
  unfold Op.equal Op.maxDepth uk
  rw [Op.equalIn]
  simp only [Sem.run_bind, run_underlying h, Result.andThen_ok]
  simp [go_sem, u8_ne]
 ok e a w := ck_u8 e a w
 same a := by simp [Instr.sameBits, uk]
theorem und_kint8 : Tryz.prog.underlying 150 = some (.map 5 3) := by kernel_rfl
def cntU (l : List Stp) (c : UInt8) : Nat := (l.map (·.1)).count c
theorem cntU_snoc (l : List Stp) (x : Stp) (q : UInt8) : cntU (l ++ [x]) q = if q = x.1 then cntU l x.1 + 1 else cntU l q := by
 unfold cntU
 rw [List.map_append, List.count_append]
 by_cases h : q = x.1
 ·subst h; simp
 ·rw [if_neg h]
  have : List.count q (List.map (·.1) [x]) = 0 := by simp [Ne.symm h]
  omega
theorem cntU_le (l : List Stp) (c : UInt8) : cntU l c ≤ l.length := by
 unfold cntU
 have := List.count_le_length (a := c) (l := l.map (·.1))
 simpa using this
def CntAt (w : World) (r : Nat) (l : List Stp) : Prop := ∃ m c, MapAt uk cntV w r m c ∧ MOk m c ∧ ∀ q, mget q m = cntO (cntU l q)
theorem CntAt.new (w : World) : CntAt (w.alloc (.map #[] 0)) w.heap.size [] := ⟨[], 0, MapAt.new w uk cntV, MOk.nil_, fun q => by simp [mget, cntO, cntU]⟩
theorem CntAt.below {w w' : World} {r : Nat} {l : List Stp} (h : CntAt w r l) (hb : Below w.heap.size w w') : CntAt w' r l := by
 obtain ⟨m, c, h1, h2⟩ := h
 exact ⟨m, c, h1.below hb, h2⟩
theorem CntAt.grown {w w' : World} {r : Nat} {l : List Stp} {row : Option Nat} (h : CntAt w r l) (hg : w.grownBy w' row) (hr : some r ≠ row) : CntAt w' r l := by
 obtain ⟨m, c, h1, h2⟩ := h
 exact ⟨m, c, h1.grown hg hr, h2⟩
theorem CntAt.look {w : World} {r : Nat} {l : List Stp} (h : CntAt w r l) (q : UInt8) :
  (Instr.lookup 150 (.map (some r)) (.int .u8 q.toNat) false).run Tryz.prog w = .ok (.int .i64 (cntU l q : Nat)) w := by
 obtain ⟨m, c, h1, h2, h3⟩ := h
 have := h1.look u8_key und_kint8 (zero_int w) q
 refine this.trans ?_
 rw [h3 q]
 unfold cntO cntV
 by_cases h0 : cntU l q = 0
 ·simp [h0]
 ·simp [h0]
theorem CntAt.put {w : World} {r : Nat} {l : List Stp} (h : CntAt w r l) (x : Stp) :
  ∃ w2, (Instr.mapUpdate 150 (.map (some r)) (.int .u8 x.1.toNat) (.int .i64 ((cntU l x.1 : Nat) + 1))).run Tryz.prog w = .ok () w2 ∧ CntAt w2 r (l ++ [x]) ∧ Chg [r] w w2 ∧ w.grownBy w2 (some r) := by
 obtain ⟨m, c, h1, h2, h3⟩ := h
 have e := h1.put u8_key und_kint8 x.1 (cntU l x.1 + 1)
 have hC : Chg [r] w (setBlock w r (.map ((mput x.1 (cntU l x.1 + 1) c m).map (ment uk cntV)).toArray (mclk x.1 m c))) := Chg.refl.setBlock (by simp) _
 refine ⟨_, e, ⟨mput x.1 (cntU l x.1 + 1) c m, mclk x.1 m c, ?_, h2.put _ _, fun q => ?_⟩, hC, ?_⟩
 ·show (w.heap.setIfInBounds r _)[r]? = _
  rw [Array.getElem?_setIfInBounds_self_of_lt h1.lt]
 ·rw [mget_put, cntU_snoc, h3 q]
  by_cases hq : q = x.1
  ·rw [if_pos hq, if_pos hq]; simp [cntO]
  ·rw [if_neg hq, if_neg hq]
 ·exact ⟨hC.os, hC.tape, hC.output, hC.size, fun k hk hne => hC.block k hk (by intro hm; apply hne; simp at hm; rw [hm])⟩
def lettR (p : Pan) : Array Value := if panE p = 0 then #[.int .i64 (cntU (stpL p.2.2.1 ++ stpL p.2.2.2) 78 : Nat), .int .i64 (cntU (stpL p.2.2.1 ++ stpL p.2.2.2) 66 : Nat), .int .i64 (cntU (stpL p.2.2.1 ++ stpL p.2.2.2) 84 : Nat)] else #[.int .i64 0, .int .i64 0, .int .i64 0]
theorem nc_lt {w : World} {r B : Nat} {row : Option Nat} (hr : ∀ k, row = some k → B ≤ k ∧ ∃ o : Obj, w.heap[k]? = some o ∧ o.isCells = false) (hB : r < B) : some r ≠ row := fun e => by
 have := (hr r e.symm).1
 omega
theorem CntAt.ne_blk {w : World} {r g : Nat} {l : List Stp} {t : TypeId} {cs : Array Value} (h : CntAt w r l) (hB : Blk w g t cs) : g ≠ r := by
 obtain ⟨m, c, h1, _⟩ := h
 exact h1.ne_blk hB
theorem apiLetters_any {vL vR : Value} (p : Pan) (w : World) (hnm : p.1.length ≤ 1000000) (hL : SlE w vL p.2.2.1) (hR : SlE w vR p.2.2.2) :
  Calls Tryz.prog 30 #[.agg #[sV p.1, .int .i64 p.2.1, vL, vR]] w (RV w (.tuple #[.agg (lettR p), .int .i64 (panE p)])) := by
 have hc := fun W (hb : Below w.heap.size w W) => checkPanel_any p W hnm (hL.below hb) (hR.below hb)
 by_cases hE : panE p = 0
 ·have hok := panE_zero hE
  rw [hE] at hc
  obtain ⟨AL, cL, rfl, hlL, hmL, hrL⟩ := hL
  obtain ⟨AR, cR, rfl, hlR, hmR, hrR⟩ := hR
  obtain ⟨nm, wd, L, R⟩ := p
  have sL : sideOk L := hok.side false
  have sR : sideOk R := hok.side true
  unfold sV at hc ⊢
  have HS : Hid (lettR (nm, wd, L, R) = #[.int .i64 (cntU (stpL L ++ stpL R) 78 : Nat), .int .i64 (cntU (stpL L ++ stpL R) 66 : Nat), .int .i64 (cntU (stpL L ++ stpL R) 84 : Nat)]) := by unfold Hid lettR; rw [if_pos hE]
  rw [HS.out, hE]
  simp only at hc hrL hrR
  have hP := (Blk.new w 30 #[.string ⟨nm.toArray⟩, .int .i64 wd, .slice AL L.length cL, .slice AR R.length cR]).alloc (.cells #[.int .i64 0, .int .i64 0, .int .i64 0] 60)
  have hZ := Blk.new1 w (.cells #[.string ⟨nm.toArray⟩, .int .i64 wd, .slice AL L.length cL, .slice AR R.length cR] 30) 60 #[.int .i64 0, .int .i64 0, .int .i64 0]
  have fhP := hP.facts
  have hrLlt : ∀ b off, AL = some ⟨b, off, none⟩ → 0 < L.length → b < w.heap.size := fun b off e h => by
   obtain ⟨b', off', e', hlt, _⟩ := hrL 0 _ (List.getElem?_eq_getElem h)
   rw [e] at e'
   cases e'
   exact hlt
  have hrRlt : ∀ b off, AR = some ⟨b, off, none⟩ → 0 < R.length → b < w.heap.size := fun b off e h => by
   obtain ⟨b', off', e', hlt, _⟩ := hrR 0 _ (List.getElem?_eq_getElem h)
   rw [e] at e'
   cases e'
   exact hlt
  clear hE hnm HS hok
  refine (callsIn_wide (n := 6)).1 ?_
  refine callsIn_of_wp_marks Tryz.func30 rfl trivial ?_ rfl
  simp only [Tryz.ntmps30, List.size_toArray, List.length_cons, List.length_nil, Nat.reduceAdd, Nat.reduceSub, Array.replicate_succ, Array.replicate_zero, List.push_toArray, List.append_toArray, List.nil_append, List.cons_append]
  gi_wp2_with (refine ⟨trivial, ?_⟩; gi_at_call 61; refine (callsIn_wide.2 (hc _ (by (repeat first|exact J0|assumption|(apply J1;assumption)|apply J2|apply J3|apply J4)))).mono ?_; rintro e w1 ⟨rfl, hb1⟩; have hP1 := hP.below hb1; have hZ1 := hZ.below hb1; have f1 := hP1.facts)
  have hbw1 : Below w.heap.size w w1 := by (repeat first|exact J0|assumption|(apply J1;assumption)|apply J2|apply J3|apply J4)
  have hzz : w.heap.size + 2 ≤ w1.heap.size := by have := hb1.size; simp at this; omega
  have hC4 := ((CntAt.new w1).below (bl_alloc bl_refl (.cells #[.map (some w1.heap.size)] 150))).below (bl_alloc bl_refl (.cells #[.slice AL L.length cL, .slice AR R.length cR] 28))
  have hN4 := (Blk.new1 w1 (.map #[] 0) 150 #[.map (some w1.heap.size)]).alloc (.cells #[.slice AL L.length cL, .slice AR R.length cR] 28)
  have hS4 := Blk.new2 w1 (.map #[] 0) (.cells #[.map (some w1.heap.size)] 150) 28 #[.slice AL L.length cL, .slice AR R.length cR]
  have hb4 : Below w1.heap.size w1 (((w1.alloc (.map #[] 0)).alloc (.cells #[.map (some w1.heap.size)] 150)).alloc (.cells #[.slice AL L.length cL, .slice AR R.length cR] 28)) := bl_alloc (bl_alloc (bl_alloc bl_refl _) _) _
  refine wpIn_loop_rounds 3 ?_
  rw [roundsIn_succ]
  obtain ⟨w4, hw4⟩ : ∃ X, ((w1.alloc (.map #[] 0)).alloc (.cells #[.map (some w1.heap.size)] 150)).alloc (.cells #[.slice AL L.length cL, .slice AR R.length cR] 28) = X := ⟨_, rfl⟩
  have hz4 : w4.heap.size = w1.heap.size + 3 := by rw [← hw4]; simp
  rw [hw4] at hC4 hN4 hS4 hb4 ⊢
  clear hw4 f1 fhP
  have hZ4 := hZ1.below hb4
  have hbw4 := bl_then hb4 hbw1
  have fS4 := hS4.facts
  gi_wp2_with (refine ⟨trivial, ?_⟩; gi_at_call 67; refine (callsIn_wide.2 (letters_any AL L.length cL _)).mono ?_; rintro e w5 ⟨rfl, rfl⟩)
  have hX5 := Blk.new w4 28 #[.slice AL L.length cL]
  have hb5 : Below w4.heap.size w4 (w4.alloc (.cells #[.slice AL L.length cL] 28)) := bl_alloc bl_refl _
  obtain ⟨w5, hw5⟩ : ∃ X, w4.alloc (.cells #[.slice AL L.length cL] 28) = X := ⟨_, rfl⟩
  have hz5 : w5.heap.size = w4.heap.size + 1 := by rw [← hw5]; simp
  rw [hw5] at hX5 hb5 ⊢
  rw [hz4] at hX5
  clear hw5
  have hbw5 := bl_then hb5 hbw4
  have hC5 := hC4.below hb5
  have hN5 := hN4.below hb5
  have hS5 := hS4.below hb5
  have hZ5 := hZ4.below hb5
  clear fS4
  obtain ⟨hs1, hs2, hs3⟩ := id sL
  refine wpIn_rangeFunc_ownH rfl (by omega) (gf := 128) (lb := #[.pointer (some ⟨w1.heap.size + 3, 0, none⟩)]) rfl trivial (enters_of Tryz.func128 (by kernel_rfl) rfl)
   (letters_stops 5 (by omega) [] w.heap.size (w1.heap.size + 3) AL cL L (by omega) hs2 hs3 w5 (fun b off e q => ⟨hrLlt b off e q, by simp⟩) hX5 (hrL.below hbw5)) keepT_t (keepT_b (by omega)) (Below.refl _ _) (fun _ => rfl)
   (fun pre W => CntAt W w1.heap.size pre ∧ Blk W (w1.heap.size + 1) 150 #[.map (some w1.heap.size)] ∧ Blk W (w1.heap.size + 2) 28 #[.slice AL L.length cL, .slice AR R.length cR] ∧ Blk W (w.heap.size + 1) 60 #[.int .i64 0, .int .i64 0, .int .i64 0] ∧ Below w.heap.size w W ∧ w5.heap.size ≤ W.heap.size)
   (fun _ _ _ => False)
   (fun _ W W' row hs hg hr => by
    obtain ⟨h1, h2, h3, h4, h5, h6⟩ := hs
    exact ⟨h1.grown hg (nc_lt hr (by omega)), h2.grown hg (nc_blk h2 hr), h3.grown hg (nc_blk h3 hr), h4.grown hg (nc_blk h4 hr), bl_grown hg h5 (fun k e => by have := (hr k e).1; omega), Nat.le_trans h6 hg.size⟩)
   (fun _ _ _ _ _ hs _ _ => hs)
   ⟨hC5, hN5, hS5, hZ5, hbw5, Nat.le_refl _⟩
   (fun x a' W => ∃ Bk, Blk W Bk 127 #[.int .u8 x.1.toNat, .bool x.2] ∧ w5.heap.size ≤ Bk ∧ a' = { tmps := #[.agg #[.string ⟨nm.toArray⟩, .int .i64 wd, .slice AL L.length cL, .slice AR R.length cR], .pointer (some ⟨w.heap.size, 0, none⟩), .pointer (some ⟨w.heap.size + 1, 0, none⟩), .int .i64 0, .int .i64 0, .pointer (some ⟨w1.heap.size + 1, 0, none⟩), undef, .slice AL L.length cL, .pointer (some ⟨Bk, 0, none⟩), .agg #[.string ⟨nm.toArray⟩, .int .i64 wd, .slice AL L.length cL, .slice AR R.length cR], .int .i64 0, .int .i64 0, .bool false, undef, undef, .map (some w1.heap.size), .pointer (some ⟨w.heap.size, 2, none⟩), .slice AL L.length cL, .pointer (some ⟨w.heap.size, 3, none⟩), .slice AR R.length cR, .slice (some ⟨w1.heap.size + 1 + 1, 0, none⟩) 2 2, .int .i64 2, .int .i64 0, .bool true, .pointer (some ⟨w1.heap.size + 1 + 1, 0, none⟩), .slice AL L.length cL, .slice AL L.length cL, .func (.func 128) #[] #[.pointer (some ⟨w1.heap.size + 3, 0, none⟩)], .agg #[.int .u8 x.1.toNat, .bool x.2], undef, undef, undef, undef, undef, undef, undef, undef, undef, undef, undef, undef, undef], defers := [] })
   (fun x a' s W W' row hs hg hr => by
    obtain ⟨Bk, hX, hk, rfl⟩ := hs
    exact ⟨Bk, hX.grown hg (nc_blk hX hr), hk, rfl⟩) ?assign ?body ?done ?stop
  case assign =>
   rintro l pre x W K ⟨h1, h2, h3, h4, h5, h6⟩ hK
   unfold encY
   gi_wp2
   have hb2 : Below W.heap.size W (W.alloc (.cells #[.int .u8 x.1.toNat, .bool x.2] 127)) := bl_alloc bl_refl _
   exact hK _ _ (keeps_of_below hb2) (KeepT.of_below hb2 (by omega)) ⟨h1.below hb2, h2.below hb2, h3.below hb2, h4.below hb2, bl_then hb2 h5, Nat.le_trans h6 hb2.size⟩ ⟨W.heap.size, Blk.new W _ _, h6, rfl⟩
  case body =>
   rintro l pre x a' W _ _ ⟨h1, h2, h3, h4, h5, h6⟩ ⟨Bk, hX, hk, rfl⟩ hlt
   have hcl : cntU pre x.1 ≤ 10000000 := Nat.le_trans (cntU_le _ _) (by omega)
   have hlook := h1.look x.1
   obtain ⟨w8, hput, h18, hC8, hg8⟩ := h1.put x
   have n2 := h1.ne_blk h2
   have n3 := h1.ne_blk h3
   have n4 := h1.ne_blk h4
   have t8 : KeepT 107 [] w.heap.size W w8 := ⟨KeepB.of_grown hg8 (by omega) (fun k e => by cases e; omega), fun g cs hB => hB.grown hg8 (fun e => h1.ne_blk hB (by injection e))⟩
   have k8 : KeepsFrom w5.heap.size W w8 := KeepsFrom.of_grownBy hg8 (fun j e => by cases e; omega)
   have h58 := chg_bl h5 hC8 (by omega)
   have h28 := h2.grown hg8 (fun e => n2 (by injection e))
   have h38 := h3.grown hg8 (fun e => n3 (by injection e))
   have h48 := h4.grown hg8 (fun e => n4 (by injection e))
   have hz8 := hg8.size
   have _hx := h18
   obtain ⟨n, hn⟩ : ∃ n, cntU pre x.1 = n := ⟨_, rfl⟩
   rw [hn] at hlook hput hcl
   have f2 := h2.facts
   have fX := hX.facts
   clear hn h1 h3 h4 hC8 hg8
   gi_wp2
   exact ⟨k8, t8, h18, h28, h38, h48, h58, by omega⟩
  case stop =>
   rintro D' c pre W _ _ h _
   exact h.elim
  case done =>
   rintro D1 ys V1 hD rfl ⟨h1, h2, h3, h4, h5, h6⟩ hdd1
   have fS4 := h3.facts
   gi_wp2
   rw [roundsIn_succ]
   gi_wp2_with (refine ⟨trivial, ?_⟩; gi_at_call 67; refine (callsIn_wide.2 (letters_any AR R.length cR _)).mono ?_; rintro e w7 ⟨rfl, rfl⟩)
   have hX7 := Blk.new V1 28 #[.slice AR R.length cR]
   have hb7 : Below V1.heap.size V1 (V1.alloc (.cells #[.slice AR R.length cR] 28)) := bl_alloc bl_refl _
   have hD1 := (Array.getElem?_eq_some_iff.1 hdd1).1
   have hdd := (hb7.block D1 hD1).trans hdd1
   obtain ⟨w7, hw7⟩ : ∃ X, V1.alloc (.cells #[.slice AR R.length cR] 28) = X := ⟨_, rfl⟩
   have hz7 : w7.heap.size = V1.heap.size + 1 := by rw [← hw7]; simp
   rw [hw7] at hX7 hb7 hdd ⊢
   clear hw7
   have hbw7 := bl_then hb7 h5
   have hC7 := h1.below hb7
   rw [← List.append_nil (stpL L)] at hC7
   have hN7 := h2.below hb7
   have hS7 := h3.below hb7
   have hZ7 := h4.below hb7
   clear fS4 hC5 hN5 hS5 hZ5 hC4 hN4 hS4 hZ4 hX5 hdd1
   have hlL2 := sL.1
   obtain ⟨hs1, hs2, hs3⟩ := id sR
   refine wpIn_rangeFunc_ownH rfl (by omega) (gf := 128) (lb := #[.pointer (some ⟨V1.heap.size, 0, none⟩)]) rfl trivial (enters_of Tryz.func128 (by kernel_rfl) rfl)
    (letters_stops 5 (by omega) [] w.heap.size (V1.heap.size) AR cR R (by omega) hs2 hs3 w7 (fun b off e q => ⟨hrRlt b off e q, by simp⟩) hX7 (hrR.below hbw7)) keepT_t (keepT_b (by omega)) (Below.refl _ _) (fun _ => rfl)
    (fun pre W => CntAt W w1.heap.size (stpL L ++ pre) ∧ Blk W (w1.heap.size + 1) 150 #[.map (some w1.heap.size)] ∧ Blk W (w1.heap.size + 2) 28 #[.slice AL L.length cL, .slice AR R.length cR] ∧ Blk W (w.heap.size + 1) 60 #[.int .i64 0, .int .i64 0, .int .i64 0] ∧ Below w.heap.size w W ∧ w7.heap.size ≤ W.heap.size ∧ W.heap[D1]? = some (.deferred (some [])))
    (fun _ _ _ => False)
    (fun _ W W' row hs hg hr => by
     obtain ⟨h1, h2, h3, h4, h5, h6, hd⟩ := hs
     exact ⟨h1.grown hg (nc_lt hr (by omega)), h2.grown hg (nc_blk h2 hr), h3.grown hg (nc_blk h3 hr), h4.grown hg (nc_blk h4 hr), bl_grown hg h5 (fun k e => by have := (hr k e).1; omega), Nat.le_trans h6 hg.size, (hg.block D1 (Array.getElem?_eq_some_iff.1 hd).1 (fun e => by have := (hr D1 e.symm).1; omega)).trans hd⟩)
    (fun _ _ _ _ _ hs _ _ => hs)
    ⟨hC7, hN7, hS7, hZ7, hbw7, Nat.le_refl _, hdd⟩
    (fun x a' W => ∃ Bk, Blk W Bk 127 #[.int .u8 x.1.toNat, .bool x.2] ∧ w7.heap.size ≤ Bk ∧ a' = { tmps := #[.agg #[.string ⟨nm.toArray⟩, .int .i64 wd, .slice AL L.length cL, .slice AR R.length cR], .pointer (some ⟨w.heap.size, 0, none⟩), .pointer (some ⟨w.heap.size + 1, 0, none⟩), .int .i64 0, .int .i64 0, .pointer (some ⟨w1.heap.size + 1, 0, none⟩), undef, .slice AR R.length cR, .pointer (some ⟨Bk, 0, none⟩), .agg #[.string ⟨nm.toArray⟩, .int .i64 wd, .slice AL L.length cL, .slice AR R.length cR], .int .i64 0, .int .i64 0, .bool false, undef, undef, .map (some w1.heap.size), .pointer (some ⟨w.heap.size, 2, none⟩), .slice AL L.length cL, .pointer (some ⟨w.heap.size, 3, none⟩), .slice AR R.length cR, .slice (some ⟨w1.heap.size + 1 + 1, 0, none⟩) 2 2, .int .i64 2, .int .i64 1, .bool true, .pointer (some ⟨w1.heap.size + 1 + 1, 1, none⟩), .slice AR R.length cR, .slice AR R.length cR, .func (.func 128) #[] #[.pointer (some ⟨V1.heap.size, 0, none⟩)], .agg #[.int .u8 x.1.toNat, .bool x.2], undef, undef, undef, undef, undef, .int .i64 1, undef, undef, undef, undef, undef, undef, undef], defers := [] })
    (fun x a' s W W' row hs hg hr => by
     obtain ⟨Bk, hX, hk, rfl⟩ := hs
     exact ⟨Bk, hX.grown hg (nc_blk hX hr), hk, rfl⟩) ?assign ?body ?done ?stop
   case assign =>
    rintro l pre x W K ⟨h1, h2, h3, h4, h5, h6, hd⟩ hK
    unfold encY
    gi_wp2
    have hb2 : Below W.heap.size W (W.alloc (.cells #[.int .u8 x.1.toNat, .bool x.2] 127)) := bl_alloc bl_refl _
    exact hK _ _ (keeps_of_below hb2) (KeepT.of_below hb2 (by omega)) ⟨h1.below hb2, h2.below hb2, h3.below hb2, h4.below hb2, bl_then hb2 h5, Nat.le_trans h6 hb2.size, (hb2.block D1 (Array.getElem?_eq_some_iff.1 hd).1).trans hd⟩ ⟨W.heap.size, Blk.new W _ _, h6, rfl⟩
   case body =>
    rintro l pre x a' W _ _ ⟨h1, h2, h3, h4, h5, h6, hd⟩ ⟨Bk, hX, hk, rfl⟩ hlt
    have hcl : cntU (stpL L ++ pre) x.1 ≤ 10000000 := Nat.le_trans (cntU_le _ _) (by rw [List.length_append]; omega)
    have hlook := h1.look x.1
    obtain ⟨w8, hput, h18, hC8, hg8⟩ := h1.put x
    have n2 := h1.ne_blk h2
    have n3 := h1.ne_blk h3
    have n4 := h1.ne_blk h4
    have t8 : KeepT 107 [] w.heap.size W w8 := ⟨KeepB.of_grown hg8 (by omega) (fun k e => by cases e; omega), fun g cs hB => hB.grown hg8 (fun e => h1.ne_blk hB (by injection e))⟩
    have k8 : KeepsFrom w7.heap.size W w8 := KeepsFrom.of_grownBy hg8 (fun j e => by cases e; omega)
    have h58 := chg_bl h5 hC8 (by omega)
    have h28 := h2.grown hg8 (fun e => n2 (by injection e))
    have h38 := h3.grown hg8 (fun e => n3 (by injection e))
    have h48 := h4.grown hg8 (fun e => n4 (by injection e))
    have hz8 := hg8.size
    have hd8 := (hg8.block D1 (Array.getElem?_eq_some_iff.1 hd).1 (fun e => by have := Option.some.inj e; omega)).trans hd
    obtain ⟨n, hn⟩ : ∃ n, cntU (stpL L ++ pre) x.1 = n := ⟨_, rfl⟩
    rw [hn] at hlook hput hcl
    have f2 := h2.facts
    have fX := hX.facts
    clear hn h1 h3 h4 hC8 hg8
    gi_wp2
    exact ⟨k8, t8, by rw [← List.append_assoc]; exact h18, h28, h38, h48, h58, by omega, hd8⟩
   case stop =>
    rintro D' c pre W _ _ h _
    exact h.elim
   case done =>
    rintro D2 ys W2 hD2 rfl ⟨h1, h2, h3, h4, h5, h6, hd1⟩ hd2
    have k1 : (Instr.lookup 150 (.map (some w1.heap.size)) (.int .u8 78) false).run Tryz.prog W2 = .ok (.int .i64 (cntU (stpL L ++ stpL R) 78 : Nat)) W2 := h1.look 78
    have k2 : (Instr.lookup 150 (.map (some w1.heap.size)) (.int .u8 66) false).run Tryz.prog W2 = .ok (.int .i64 (cntU (stpL L ++ stpL R) 66 : Nat)) W2 := h1.look 66
    have k3 : (Instr.lookup 150 (.map (some w1.heap.size)) (.int .u8 84) false).run Tryz.prog W2 = .ok (.int .i64 (cntU (stpL L ++ stpL R) 84 : Nat)) W2 := h1.look 84
    have f2 := h2.facts
    have f3 := h3.facts
    gi_wp2
    rw [roundsIn_succ]
    gi_wp2_with (refine wpListIn_store_blk h4 rfl _ _ _ rfl rfl rfl (by rfl) (by kernel_rfl) (by kernel_rfl) ?_; intro w8 h48 hc8)
    have hd1w := (hc8.block D1 (Array.getElem?_eq_some_iff.1 hd1).1 (by simp; omega)).trans hd1
    have hd2w := (hc8.block D2 (Array.getElem?_eq_some_iff.1 hd2).1 (by simp; omega)).trans hd2
    have hb8 : Below w.heap.size w w8 := chg_bl h5 hc8 (by omega)
    have hd1v : (w8.putObj D2 (.deferred none)).heap[D1]? = some (.deferred (some [])) := ((grownBy_putObj' w8 D2 (.deferred none)).block D1 (Array.getElem?_eq_some_iff.1 hd1w).1 (by simp; omega)).trans hd1w
    have h58 := (h48.grown (grownBy_putObj' w8 D2 (.deferred none)) (by simp; omega)).grown (grownBy_putObj' _ D1 (.deferred none)) (by simp; omega)
    have f58 := h58.facts
    refine ⟨by simp, .inl ⟨_, _, rfl, run_takeDeferred hd2w, ?_⟩⟩
    refine ⟨by simp, .inl ⟨_, _, rfl, run_takeDeferred hd1v, ?_⟩⟩
    refine ⟨.tuple #[.agg #[.int .i64 (cntU (stpL L ++ stpL R) 78 : Nat), .int .i64 (cntU (stpL L ++ stpL R) 66 : Nat), .int .i64 (cntU (stpL L ++ stpL R) 84 : Nat)], .int .i64 0], by simp [results, Tryz.results30, go_sem, f58], rfl, ?_⟩
    exact (hb8.trans (belowK_b (w := w) (Nat.le_refl _) w8 D2 _ _ (by omega) hd2w rfl rfl)).trans (belowK_b (w := w) (Nat.le_refl _) _ D1 _ _ (by omega) hd1v rfl rfl)
 ·have HS : Hid (lettR p = #[.int .i64 0, .int .i64 0, .int .i64 0]) := by unfold Hid lettR; rw [if_neg hE]
  have t0 : (panE p != 0) = true := by simp [hE]
  rw [HS.out]
  obtain ⟨E, hEE⟩ : ∃ E, panE p = E := ⟨_, rfl⟩
  rw [hEE] at hc t0 ⊢
  obtain ⟨AL, cL, rfl, _, _, _⟩ := hL
  obtain ⟨AR, cR, rfl, _, _, _⟩ := hR
  unfold sV at hc ⊢
  have hP := (Blk.new w 30 #[.string ⟨p.1.toArray⟩, .int .i64 p.2.1, .slice AL p.2.2.1.length cL, .slice AR p.2.2.2.length cR]).alloc (.cells #[.int .i64 0, .int .i64 0, .int .i64 0] 60)
  have hZ := Blk.new1 w (.cells #[.string ⟨p.1.toArray⟩, .int .i64 p.2.1, .slice AL p.2.2.1.length cL, .slice AR p.2.2.2.length cR] 30) 60 #[.int .i64 0, .int .i64 0, .int .i64 0]
  have fhP := hP.facts
  have fhZ := hZ.facts
  clear hE hEE hnm HS
  go_enter Tryz.func30, Tryz.ntmps30
  go_wp2_with fail
  refine (hc _ (by (repeat first|exact J0|assumption|(apply J1;assumption)|apply J2|apply J3|apply J4))).mono ?_
  rintro e w2 ⟨rfl, hb2⟩
  replace hP := hP.below (show Below _ _ w2 by (repeat first|exact J0|assumption|(apply J1;assumption)|apply J2|apply J3|apply J4))
  replace fhP := hP.facts
  replace hZ := hZ.below (show Below _ _ w2 by (repeat first|exact J0|assumption|(apply J1;assumption)|apply J2|apply J3|apply J4))
  replace fhZ := hZ.facts
  go_wp2_with (refine wpList_store_blk hZ rfl _ _ _ rfl rfl rfl (by rfl) (by kernel_rfl) (by kernel_rfl) ?_; intro w12 hZ12 hc12; have f12 := hZ12.facts)
  refine bodyPost_ret (v := .tuple #[.agg #[.int .i64 0, .int .i64 0, .int .i64 0], .int .i64 E]) (by simp [results, Tryz.results30, go_sem, f12]) rfl ?_
  exact ⟨rfl, chg_bl (by (repeat first|exact J0|assumption|(apply J1;assumption)|apply J2|apply J3|apply J4)) hc12 (by omega)⟩
end Go.Proofs.YtkkefahobjlagaaGreatDoor
namespace Go.Proofs.YtkkefahobjlagaaGreatDoor
open Go.RowKit Go.ChangeMaps
set_option maxHeartbeats 4000000
set_option maxRecDepth 100000
def wingS : Str := [112, 97, 110, 101, 108, 32, 119, 105, 110, 103, 32, 50, 10, 108, 101, 102, 116, 32, 78, 32, 49, 32, 105, 110, 10, 114, 105, 103, 104, 116, 32, 66, 66, 32, 49, 32, 111, 117, 116, 10, 101, 110, 100, 10]
def wingW : Pan := ([119, 105, 110, 103], 3, [([78], 1, false)], [([66, 66], 1, true)])
def wingT : Pan := ([119, 105, 110, 103], 3, [([66, 66], 1, false)], [([78], 1, true)])
theorem a_err : panE wingP = 0 := by kernel_rfl
theorem a_out : outP wingP true = [(4, 0), (5, 1), (6, 2)] := by kernel_rfl
theorem a_str : strips wingP = [(0, 4, 0, 5), (0, 5, 0, 6)] := by kernel_rfl
theorem a_area : areaS (strips wingP) = 20 := by kernel_rfl
theorem a_netE : netErr wingP = 0 := by kernel_rfl
theorem a_netN : (netL wingP).length = 11 := by kernel_rfl
theorem a_rows : rowsL wingP = [(0, 4), (1, 5), (0, 6)] := by kernel_rfl
theorem a_frm : frmR wingP = #[.int .i64 0, .int .i64 0, .int .i64 3, .int .i64 2] := by kernel_rfl
theorem a_restE : restE wingP = 0 := by kernel_rfl
theorem a_restL : restL wingP = [(6, 0, -1)] := by kernel_rfl
theorem a_prnE : prnE [wingP] = 0 := by kernel_rfl
theorem a_prnS : prnS [wingP] = wingS := by kernel_rfl
theorem a_par : parR wingS = ([wingP], 0, 0) := by kernel_rfl
theorem a_turE : pcE (panE wingP) (turQ wingP) = 0 := by kernel_rfl
theorem a_turR : pcR (panE wingP) (turQ wingP) = wingT := by kernel_rfl
theorem a_cutH : 1 ≤ heightP wingP - 1 := by decide +kernel
theorem a_cutS : splitI (outP wingP false) 1 < 0 := by decide +kernel
theorem a_stk : pcE (stkE wingP wingP) (stkQ wingP wingP) = 24 := by kernel_rfl
theorem a_widE : pcE (widE wingP 1) (widQ wingP 1) = 0 := by kernel_rfl
theorem a_widR : pcR (widE wingP 1) (widQ wingP 1) = wingW := by kernel_rfl
theorem a_wnetE : netErr wingW = 0 := by kernel_rfl
theorem a_wnetN : (netL wingW).length = 15 := by kernel_rfl
theorem a_let : lettR wingP = #[.int .i64 1, .int .i64 2, .int .i64 0] := by kernel_rfl
end Go.Proofs.YtkkefahobjlagaaGreatDoor
