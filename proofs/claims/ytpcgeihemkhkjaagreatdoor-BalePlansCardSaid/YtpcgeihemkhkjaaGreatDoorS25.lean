/- The gap of two pieces, walked. Conditions: bounds. -/
import Derived.Test.YtpcgeihemkhkjaaGreatDoorS24
import Derived.Test.YtpcgeihemkhkjaaGreatDoorS19
namespace Go.Proofs.YtpcgeihemkhkjaaGreatDoor
open Go.RowKit Go.ChangeMaps
set_option maxHeartbeats 4000000
set_option maxRecDepth 100000
attribute [local go_sem] Oper.semAt_some
theorem Zjq {A : List Strp} (h : ∀ s ∈ A, Zaz s) (i : Nat) : Zaz (stG A i) := by
 unfold stG
 rw [List.getD_eq_getElem?_getD]
 by_cases hi : i < A.length
 ·rw [List.getElem?_eq_getElem hi]
  exact h _ (List.getElem_mem hi)
 ·rw [List.getElem?_eq_none (by omega)]
  simp [Zaz]
theorem Zjr {a b : Strp} (ha : Zaz a) (hb : Zaz b) : (-200000 ≤ (Zig a b).1 ∧ (Zig a b).1 ≤ 200000) ∧ -200000 ≤ (Zig a b).2 ∧ (Zig a b).2 ≤ 200000 := by
 unfold Zaz at ha hb
 unfold Zig
 simp only
 omega
theorem Zjs {A B : List Strp} (ha : ∀ s ∈ A, Zaz s) (hb : ∀ s ∈ B, Zaz s) : ∀ n, -200000 ≤ Zih A B n ∧ Zih A B n ≤ 200000
 | 0 => by
  have := Zjr (Zjq ha 0) (Zjq hb 0)
  unfold Zih; omega
 | n + 1 => by
  have h1 := Zjs ha hb n
  have h2 := Zjr (Zjq ha n) (Zjq hb n)
  unfold Zih; omega
theorem Zjt {A : List Strp} {i : Nat} (h : i < A.length) : stG A i = A[i] := by
 unfold stG
 rw [List.getD_eq_getElem?_getD, List.getElem?_eq_getElem h]
 rfl
theorem Zju (A B : List Strp) (g : Int) (n : Nat) : comG A B g (n + 1) = (comG A B g n || comB (stG A n) (stG B n) g) := by
 unfold comG
 rw [List.range_succ, List.any_append]
 simp [comS, comB]
theorem Zjv {A B : List Strp} {g : Int} {k n : Nat} (hk : k < n) (h : comB (stG A k) (stG B k) g = true) : comG A B g n = true := by
 unfold comG
 rw [List.any_eq_true]
 exact ⟨k, List.mem_range.2 hk, h⟩
theorem Zjw (z : Int) : bits .and .i64 z 1 = z % 2 := by
 rw [Z1e, Z1g _ (Nat.mod_lt _ (Nat.zero_lt_succ 1)), Int.natCast_emod, Z1b]
 exact Z1f z
@[go_sem] theorem max3_run {P : Program} {w : World} (ts : Array TypeId) (t : TypeId) (x y z : Int) : (Builtin.max_ ts t #[.int .i64 x, .int .i64 y, .int .i64 z]).run P w = .ok (.int .i64 (max (max x y) z)) w := by
 have e : (if z > (if y > x then y else x) then z else (if y > x then y else x)) = max (max x y) z := by
  split <;> split <;> omega
 rw [← e]
 simp [Builtin.max_, Builtin.max2]
theorem Zjx (A B : List Strp) (hA : ∀ s ∈ A, Zaz s) (hB : ∀ s ∈ B, Zaz s) (h0 : 0 < minL A B) (hAl : A.length ≤ 1000) (hBl : B.length ≤ 1000) (ga gb gn : Nat) (a1 a2 b1 b2 : Int) (a3 b3 : Value) (Aa Ab : Option Addr) (ca cb : Nat) (w : World)
  (hga : Blk w ga 121 #[.slice Aa A.length ca, .int .i64 a1, .int .i64 a2, a3]) (hgb : Blk w gb 121 #[.slice Ab B.length cb, .int .i64 b1, .int .i64 b2, b3]) (hgn : Blk w gn 3 #[.int .i64 (minL A B : Nat)])
  (hrA : Rd trc 4 w Aa A) (hrB : Rd trc 4 w Ab B) :
  Calls Tryz.prog 159 #[.pointer (some ⟨ga, 0, none⟩), .pointer (some ⟨gb, 0, none⟩), .pointer (some ⟨gn, 0, none⟩)] w (RV w (.int .i64 (Zih A B (minL A B)))) := by
 have hNA := Lib.hid (Zjq hA)
 have hNB := Lib.hid (Zjq hB)
 have HM := Lib.hid (Zjs hA hB)
 have ha0 : 0 < A.length := by unfold minL at h0; omega
 have hb0 : 0 < B.length := by unfold minL at h0; omega
 have hmA : minL A B ≤ A.length := by unfold minL; omega
 have hmB : minL A B ≤ B.length := by unfold minL; omega
 have HZ : Hid (Zih A B 0 = A[0].2.1 - B[0].1) := by unfold Hid Zih Zig; rw [Zjt ha0, Zjt hb0]
 have hz1 := hA _ (List.getElem_mem ha0)
 have hz2 := hB _ (List.getElem_mem hb0)
 unfold Zaz at hz1 hz2
 obtain ⟨M, hM⟩ : ∃ M, minL A B = M := ⟨_, rfl⟩
 rw [hM] at hgn hmA hmB ⊢
 obtain ⟨bA, oA, rfl, hbA, p0, p1, p2, p3⟩ := hrA.strp ha0
 obtain ⟨bB, oB, rfl, hbB, q0, q1, q2, q3⟩ := hrB.strp hb0
 simp only [Nat.zero_mul, Nat.add_zero] at p0 p1 p2 p3 q0 q1 q2 q3
 have fga := hga.facts
 have fgb := hgb.facts
 have fgn := hgn.facts
 clear hA hB hM h0
 go_enter Tryz.func159, Tryz.ntmps159
 go_wp2
 refine Z0z [0, 1, 2, 3, 4, 5, 6, 7, 8, 9, 10, 11, 12, 13] [] [] (by kernel_rfl) (by kernel_rfl) (fun d _ _ _ _ h => by cases d <;> exact h) ?_
 simp only [List.map_cons, List.map_nil, List.getD_cons_zero, List.getD_cons_succ]
 repeat (go_big_quiet_step (fail))
 refine wpQuiet_nil ?_
 refine Z10 ?_
 go_wp2
 rw [← HZ.out]
 clear p0 p1 p2 p3 q0 q1 q2 q3 hz1 hz2
 go_loopw [4, 22] (fun m i wr => ∃ k : Nat, k ≤ M ∧ i = .int .i64 k ∧ m = .int .i64 (Zih A B k) ∧ Below w.heap.size w wr) (fun _ i _ => M - (intOf i).toNat)
 case atStart => exact ⟨0, Nat.zero_le _, rfl, rfl, Z05 Z03⟩
 case round =>
  obtain ⟨k, hk, rfl, rfl, hbw⟩ := hrel; obtain ⟨wo, rfl⟩ : ∃ x, x = wr := ⟨_, rfl⟩
  by_cases hlt : k < M
  ·have hkA : k < A.length := by omega
   have hkB : k < B.length := by omega
   have hn := fun W => Zje (stG A k) (stG B k) (hNA.out k) (hNB.out k) W
   have hmk := HM.out k
   have hnn := Zjr (hNA.out k) (hNB.out k)
   have HS : Hid (Zih A B (k + 1) = max (max (Zih A B k) (Zig (stG A k) (stG B k)).1) (Zig (stG A k) (stG B k)).2) := rfl
   obtain ⟨_, _, hE1, _, p0, p1, p2, p3⟩ := (hrA.below hbw).strp hkA
   obtain ⟨rfl, rfl⟩ : bA = _ ∧ oA = _ := by simpa using hE1
   obtain ⟨_, _, hE2, _, q0, q1, q2, q3⟩ := (hrB.below hbw).strp hkB
   obtain ⟨rfl, rfl⟩ : bB = _ ∧ oB = _ := by simpa using hE2
   rw [← Zjt hkA] at p0 p1 p2 p3; rw [← Zjt hkB] at q0 q1 q2 q3; obtain ⟨⟨s0, s1, s2, s3⟩, hs⟩ : ∃ z, stG A k = z := ⟨_, rfl⟩
   obtain ⟨⟨t0, t1, t2, t3⟩, ht⟩ : ∃ z, stG B k = z := ⟨_, rfl⟩
   rw [hs] at p0 p1 p2 p3 hn HS hnn; rw [ht] at q0 q1 q2 q3 hn HS hnn; obtain ⟨⟨n1, n2⟩, hN⟩ : ∃ z, Zig (s0, s1, s2, s3) (t0, t1, t2, t3) = z := ⟨_, rfl⟩
   rw [hN] at hn HS hnn; obtain ⟨m, hm⟩ : ∃ z, Zih A B k = z := ⟨_, rfl⟩
   rw [hm] at HS hmk ⊢; simp only [stV] at hn p0 p1 p2 p3 q0 q1 q2 q3 hnn; clear hs ht hN hm hE1 hE2; have fga := (hga.below hbw).facts
   have fgb := (hgb.below hbw).facts
   go_wp2; refine Z0z [0, 1, 2, 3, 4, 5, 6, 7, 8, 9] [(10, false), (11, false), (12, true), (13, true), (14, false)] [15] (by kernel_rfl) (by kernel_rfl) (fun d _ _ _ _ h => by cases d <;> exact h) ?_
   simp only [List.map_cons, List.map_nil, List.getD_cons_zero, List.getD_cons_succ]; repeat (go_big_quiet_step (fail))
   refine wpQuiet_nil ?_; refine Z11 rfl (fun K hK => ?_); go_simp; refine (hn _).mono ?_
   rintro e w2 ⟨rfl, hb2⟩; refine hK _ _ (by (repeat first|exact J0|assumption|(apply J1;assumption)|apply J2|apply J3|apply J4)) ?_
   clear hK K; refine Z11 rfl (fun K hK => ?_); go_simp; refine hK _ _ (by (repeat first|exact J0|assumption|(apply J1;assumption)|apply J2|apply J3|apply J4)) ?_
   clear hK K; iterate 2 (refine Z14 rfl ?_; intro K hK; go_big_quiet_op; go_big_quiet_on)
   refine Z11 rfl (fun K hK => ?_); go_simp; refine hK _ _ (by (repeat first|exact J0|assumption|(apply J1;assumption)|apply J2|apply J3|apply J4)) ?_
   clear hK K; refine Z10 ?_; go_wp2; go_roundw; case rel => exact ⟨k + 1, by omega, by go_num, by rw [HS.out]; exact congrArg _ (by omega), by (repeat first|exact J0|assumption|(apply J1;assumption)|apply J2|apply J3|apply J4)⟩
   case measure => simp [intOf]; omega
  ·obtain rfl : k = M := by omega
   go_wp2; go_ret; exact ⟨rfl, hbw⟩
theorem Zjy (A B : List Strp) (hA : ∀ s ∈ A, Zaz s) (hB : ∀ s ∈ B, Zaz s) (h0 : 0 < minL A B) (hAl : A.length ≤ 1000) (hBl : B.length ≤ 1000) {a1 a2 b1 b2 : Int} {a4 a5 b4 b5 : Nat} {a3' b3' : Option Addr} {Aa Ab : Option Addr} {ca cb : Nat} {w : World}
  (hrA : Rd trc 4 w Aa A) (hrB : Rd trc 4 w Ab B) :
  Calls Tryz.prog 111 #[.agg #[.slice Aa A.length ca, .int .i64 a1, .int .i64 a2, .slice a3' a4 a5], .agg #[.slice Ab B.length cb, .int .i64 b1, .int .i64 b2, .slice b3' b4 b5]] w (RV w (.int .i64 (gapB A B))) := by
 have hNA := Lib.hid (Zjq hA)
 have hNB := Lib.hid (Zjq hB)
 have hmA : minL A B ≤ A.length := by unfold minL; omega
 have hmB : minL A B ≤ B.length := by unfold minL; omega
 have hg1 := fun ga gb gn W q1 q2 q3 q4 q5 => Zjx A B hA hB h0 hAl hBl ga gb gn a1 a2 b1 b2 (.slice a3' a4 a5) (.slice b3' b4 b5) Aa Ab ca cb W q1 q2 q3 q4 q5
 have hbd := Zjs hA hB (minL A B)
 have HG : Hid (gapB A B = if comG A B (evnI (Zih A B (minL A B))) (minL A B) = true then evnI (Zih A B (minL A B)) + 2 else evnI (Zih A B (minL A B))) := rfl
 have HS := Lib.hid (Zju A B)
 have HI : Hid (∀ g k, k < minL A B → comB (stG A k) (stG B k) g = true → comG A B g (minL A B) = true) := fun g k h h2 => Zjv h h2
 have hml : (min (A.length : Int) (B.length : Int)) = ((minL A B : Nat) : Int) := by unfold minL; omega
 obtain ⟨m, hm⟩ : ∃ m, Zih A B (minL A B) = m := ⟨_, rfl⟩
 rw [hm] at hbd HG hg1
 obtain ⟨M, hM⟩ : ∃ M, minL A B = M := ⟨_, rfl⟩
 rw [hM] at hmA hmB HG HI hml hg1
 have HML := Lib.hid hml
 clear hA hB h0 hm hM hml
 have hKA := ((Blk.new w 121 #[.slice Aa A.length ca, .int .i64 a1, .int .i64 a2, .slice a3' a4 a5]).alloc (.cells #[.slice Ab B.length cb, .int .i64 b1, .int .i64 b2, .slice b3' b4 b5] 121)).alloc (.cells #[.int .i64 M] 3)
 have hKB := (Blk.new1 w (.cells #[.slice Aa A.length ca, .int .i64 a1, .int .i64 a2, .slice a3' a4 a5] 121) 121 #[.slice Ab B.length cb, .int .i64 b1, .int .i64 b2, .slice b3' b4 b5]).alloc (.cells #[.int .i64 M] 3)
 have hKN := Blk.new2 w (.cells #[.slice Aa A.length ca, .int .i64 a1, .int .i64 a2, .slice a3' a4 a5] 121) (.cells #[.slice Ab B.length cb, .int .i64 b1, .int .i64 b2, .slice b3' b4 b5] 121) 3 #[.int .i64 M]
 have hbw1 : Below w.heap.size w (((w.alloc (.cells #[.slice Aa A.length ca, .int .i64 a1, .int .i64 a2, .slice a3' a4 a5] 121)).alloc (.cells #[.slice Ab B.length cb, .int .i64 b1, .int .i64 b2, .slice b3' b4 b5] 121)).alloc (.cells #[.int .i64 M] 3)) := Z04 (Z04 (Z04 Z03 _) _) _
 have hrA1 := hrA.below hbw1
 have hrB1 := hrB.below hbw1
 have hKA0 := (Blk.new w 121 #[.slice Aa A.length ca, .int .i64 a1, .int .i64 a2, .slice a3' a4 a5]).alloc (.cells #[.slice Ab B.length cb, .int .i64 b1, .int .i64 b2, .slice b3' b4 b5] 121)
 have hKB0 := Blk.new1 w (.cells #[.slice Aa A.length ca, .int .i64 a1, .int .i64 a2, .slice a3' a4 a5] 121) 121 #[.slice Ab B.length cb, .int .i64 b1, .int .i64 b2, .slice b3' b4 b5]
 have fKA0 := hKA0.facts
 have fKB0 := hKB0.facts
 go_enter Tryz.func111, Tryz.ntmps111
 go_upto_region 1 with fail
 apply wp_scope_straight
 have hml := HML.out
 go_upto_region 2 with fail
 clear fKA0 fKB0 hKA0 hKB0 hml
 obtain ⟨w1, hw1⟩ : ∃ X, ((w.alloc (.cells #[.slice Aa A.length ca, .int .i64 a1, .int .i64 a2, .slice a3' a4 a5] 121)).alloc (.cells #[.slice Ab B.length cb, .int .i64 b1, .int .i64 b2, .slice b3' b4 b5] 121)).alloc (.cells #[.int .i64 M] 3) = X := ⟨_, rfl⟩
 rw [hw1] at hKA hKB hKN hbw1 hrA1 hrB1 ⊢
 clear hw1
 go_wp2_with fail
 refine (hg1 _ _ _ _ hKA hKB hKN hrA1 hrB1).mono ?_
 rintro e w2 ⟨rfl, hb2⟩
 replace hKA := hKA.below (show Below _ _ w2 by (repeat first|exact J0|assumption|(apply J1;assumption)|apply J2|apply J3|apply J4))
 replace fhKA := hKA.facts
 replace hKB := hKB.below (show Below _ _ w2 by (repeat first|exact J0|assumption|(apply J1;assumption)|apply J2|apply J3|apply J4))
 replace fhKB := hKB.facts
 replace hKN := hKN.below (show Below _ _ w2 by (repeat first|exact J0|assumption|(apply J1;assumption)|apply J2|apply J3|apply J4))
 replace fhKN := hKN.facts
 have hand := Zjw m
 have hev : Hid (evnI m = m + m % 2) := rfl
 have hrA2 := hrA1.below hb2
 have hrB2 := hrB1.below hb2
 have hbw2 := Z08 hb2 hbw1
 clear hg1 hb2 hbw1 hrA1 hrB1 hrA hrB
 go_upto_region 4 with fail
 refine wp_label ?_
 rw [← hev.out]
 have HEV : Hid (-200000 ≤ evnI m ∧ evnI m ≤ 200001) := by unfold Hid evnI; omega
 clear hev
 obtain ⟨E, hE⟩ : ∃ E, evnI m = E := ⟨_, rfl⟩
 rw [hE] at HG HEV ⊢
 clear hE hand hbd
 have hev := HEV.out
 have fN := hKN.facts
 go_wp2
 go_loopw [6, 22] (fun s6 i wr => ∃ k : Nat, k ≤ M ∧ i = .int .i64 k ∧ s6 = .int .i64 E ∧ Hid (comG A B E k = false) ∧ Below w2.heap.size w2 wr) (fun _ i _ => M - (intOf i).toNat)
 case atStart => exact ⟨0, Nat.zero_le _, rfl, rfl, rfl, Z03⟩
 case round =>
  obtain ⟨k, hk, rfl, rfl, HK, hbk⟩ := hrel; obtain ⟨wo, rfl⟩ : ∃ x, x = wr := ⟨_, rfl⟩
  by_cases hlt : k < M
  ·have hkA : k < A.length := by omega
   have hkB : k < B.length := by omega
   have hc := fun W => Zjf (stG A k) (stG B k) E (hNA.out k) (hNB.out k) W
   have HSk := Lib.hid (HS.out E k)
   have HIk := Lib.hid (HI.out E k hlt)
   obtain ⟨bA, oA, hE1, _, p0, p1, p2, p3⟩ := (hrA2.below hbk).strp hkA
   obtain ⟨bB, oB, hE2, _, q0, q1, q2, q3⟩ := (hrB2.below hbk).strp hkB
   subst hE1 hE2; rw [← Zjt hkA] at p0 p1 p2 p3; rw [← Zjt hkB] at q0 q1 q2 q3; obtain ⟨⟨s0, s1, s2, s3⟩, hs⟩ : ∃ z, stG A k = z := ⟨_, rfl⟩
   obtain ⟨⟨t0, t1, t2, t3⟩, ht⟩ : ∃ z, stG B k = z := ⟨_, rfl⟩
   rw [hs] at p0 p1 p2 p3 hc HSk HIk; rw [ht] at q0 q1 q2 q3 hc HSk HIk; obtain ⟨q, hq⟩ : ∃ z, comB (s0, s1, s2, s3) (t0, t1, t2, t3) E = z := ⟨_, rfl⟩
   rw [hq] at hc HSk HIk; simp only [stV] at hc p0 p1 p2 p3 q0 q1 q2 q3; clear hs ht hq; have fA := (hKA.below hbk).facts
   have fB := (hKB.below hbk).facts
   go_wp2; refine Z0z [0, 1, 2, 3, 4, 5, 6, 7, 8, 9, 10] [] [11] (by kernel_rfl) (by kernel_rfl) (fun d _ _ _ _ h => by cases d <;> exact h) ?_
   simp only [List.map_cons, List.map_nil, List.getD_cons_zero, List.getD_cons_succ]; repeat (go_big_quiet_step (fail))
   refine wpQuiet_nil ?_; refine Z10 ?_; cases q
   ·go_wp2_with fail
    refine (hc _).mono ?_
    rintro e w3 ⟨rfl, hb3⟩; have HKN : Hid (comG A B E (k + 1) = false) := by unfold Hid; rw [HSk.out, HK.out]; rfl
    go_wp2; go_roundw; case rel => exact ⟨k + 1, by omega, by go_num, rfl, HKN, by (repeat first|exact J0|assumption|(apply J1;assumption)|apply J2|apply J3|apply J4)⟩
    case measure => simp [intOf]; omega
   ·go_wp2_with fail
    refine (hc _).mono ?_
    rintro e w3 ⟨rfl, hb3⟩; have HV : Hid (gapB A B = E + 2) := by unfold Hid; rw [HG.out, if_pos (HIk.out (by trivial))]
    have hbk3 : Below w2.heap.size w2 w3 := by (repeat first|exact J0|assumption|(apply J1;assumption)|apply J2|apply J3|apply J4)
    go_wp2; rw [Exit.noGoto_ret]; go_ret; exact ⟨by rw [HV.out]; rfl, Z08 hbk3 hbw2⟩
  ·obtain rfl : k = M := by omega
   have HV : Hid (gapB A B = E) := by unfold Hid; rw [HG.out, HK.out]; rfl
   go_wp2; rw [Exit.noGoto_ret]; go_ret; exact ⟨by rw [HV.out]; rfl, Z08 hbk hbw2⟩
def mmF (l : List Int) : Int × Int := l.foldl Z6o (999999999, -999999999)
theorem Zjz {l : List Int} {k : Nat} (hk : k < l.length) : mmF (l.take (k + 1)) = Z6o (mmF (l.take k)) l[k] := by
 unfold mmF
 rw [List.take_succ_eq_append_getElem hk, List.foldl_append]
 rfl
theorem Zk0 {l : List Int} (h : 0 < l.length) (hn : ∀ x ∈ l, -100000 ≤ x ∧ x ≤ 100000) : mmF (l.take 1) = (l[0], l[0]) := by
 rw [Zjz h]
 have := hn _ (List.getElem_mem h)
 unfold mmF Z6o
 simp only [List.take_zero, List.foldl_nil, Prod.mk.injEq]
 omega
theorem Zk1 (p : Pan) : Zin p = mmF (xsP p) := rfl
theorem Zk2 (x : Int) : (ic x).length = 1 := rfl
theorem Zk3 (x : Int) : ∀ u ∈ ic x, u.oneCell' = true := by intro u hu; simp [ic] at hu; subst hu; rfl
theorem Zk4 : Elem Tryz.prog 134 3 1 8 := ⟨by kernel_rfl, by kernel_rfl, by decide⟩
theorem Zk5 (x y : Int) (w : World) : Calls Tryz.prog 164 #[.agg #[.int .i64 x, .int .i64 y]] w (RV w (.int .i64 x)) := by
 have hK := Blk.new w 90 #[.int .i64 x, .int .i64 y]
 have fK := hK.facts
 go_enter Tryz.func164, Tryz.ntmps164
 go_wp2
 go_ret
 exact ⟨rfl, by (repeat first|exact J0|assumption|(apply J1;assumption)|apply J2|apply J3|apply J4)⟩
theorem Zk6 (l : List Knot) (A : Option Addr) (c : Nat) (w : World) (h : Rd kc 2 w A l) (hl : l.length ≤ 100000) :
  Calls Tryz.prog 165 #[.slice A l.length c, .func (.func 164) #[] #[]] w (RG ic 1 3 w (l.map (·.1))) := by
 have HM : Hid (∀ k (h : k < l.length), (l.take (k + 1)).map (·.1) = (l.take k).map (·.1) ++ [l[k].1]) := by
  intro k h; rw [List.take_succ_eq_append_getElem h, List.map_append]; rfl
 go_enter Tryz.func165, Tryz.ntmps165
 go_wp2
 go_loopw [5, 10] (fun o i wr => ∃ k : Nat, k ≤ l.length ∧ i = .int .i64 k ∧ Own ic 1 w.heap.size 3 wr o ((l.take k).map (·.1)) ∧ Below w.heap.size w wr) (fun _ i _ => l.length - (intOf i).toNat)
 case atStart => exact ⟨0, Nat.zero_le _, rfl, Own.nil_, Z03⟩
 case round =>
  obtain ⟨k, hk, rfl, hO, hbw⟩ := hrel; obtain ⟨wo, rfl⟩ : ∃ x, x = wr := ⟨_, rfl⟩
  by_cases hlt : k < l.length
  ·obtain ⟨b, off, rfl, hb, e0, e1⟩ := (h.below hbw).knot hlt
   have HT := Lib.hid (HM.out k hlt)
   obtain ⟨⟨x, y⟩, hx⟩ : ∃ z, l[k] = z := ⟨_, rfl⟩
   rw [hx] at e0 e1 HT; simp only at e0 e1
   obtain ⟨T, hT⟩ : ∃ T, (l.take k).map (·.1) = T := ⟨_, rfl⟩
   have hTl : T.length ≤ 100000 := by rw [← hT, List.length_map, List.length_take]; omega
   rw [hT] at hO HT; clear hx hT; obtain ⟨Ao, co, rfl⟩ := hO.shape; have hal : Below wo.heap.size wo (wo.alloc (.cells #[.int .i64 x, .int .i64 y] 90)) := Z04 Z03 _
   go_wp2_with fail; refine (Zk5 x y _).mono ?_
   rintro e w2 ⟨rfl, hb2⟩; have hal2 : Below wo.heap.size wo w2 := Z08 hb2 hal
   have hO2 := hO.below hal2
   have hbw2 := Z08 hal2 hbw
   have hu := Sl.oneG (enc := ic) (sz := 1) w2 3 x #[.int .i64 x] rfl
   clear hO hal hb2 hal2; go_wp2_with (at_builtin; refine Z3y rfl Zk4 Zk2 Zk3 _ _ rfl w.heap.size _ _ _ [x] rfl rfl (hO2.alloc _) hu (by simp [maxLen]; omega) (by simp; omega) (by simp; have := hbw2.size; omega) ?_; intro v3 w3 hu3 hgr3)
   have hb3 : Below w.heap.size w w3 := Z09 hgr3 (Z04 hbw2 _) (fun j e => (hO2.lt j e).1)
   go_wp2; go_roundw; case rel => exact ⟨k + 1, by omega, by go_num, by rw [HT.out]; exact hu3, hb3⟩
   case measure => simp [intOf]; omega
  ·have hkl : k = l.length := by omega
   have HT := Lib.hid (show (l.take k).map (·.1) = l.map (·.1) by rw [hkl, List.take_length])
   go_wp2; go_ret; exact ⟨_, rfl, by rw [HT.out] at hO; exact hO, hbw⟩
theorem Zk7 (l : List Int) (A : Option Addr) (c : Nat) (w : World) (h : Rd ic 1 w A l) (h0 : 0 < l.length) (hl : l.length ≤ 100000) (hn : ∀ x ∈ l, -100000 ≤ x ∧ x ≤ 100000) :
  Calls Tryz.prog 167 #[.slice A l.length c] w (RV w (.int .i64 (mmF l).1)) := by
 have H1 := Lib.hid (Zk0 h0 hn)
 have t0 : (l.length < 1) = False := eq_false (by omega)
 have t1 : ((l.length : Int) < 1) = False := eq_false (by omega)
 obtain ⟨b, off, rfl, hb, hc⟩ := h.int h0
 simp only [Nat.add_zero] at hc
 clear hn
 go_enter Tryz.func167, Tryz.ntmps167
 go_wp2
 clear t0 t1
 go_loop [3, 4] (fun m i => ∃ k : Nat, 0 < k ∧ k ≤ l.length ∧ i = .int .i64 k ∧ m = .int .i64 (mmF (l.take k)).1) (fun _ i => l.length - (intOf i).toNat)
 case atStart => exact ⟨1, by omega, by omega, rfl, by rw [H1.out]⟩
 case round =>
  obtain ⟨k, hk0, hk, rfl, rfl⟩ := hrel; by_cases hlt : k < l.length
  ·obtain ⟨b2, off2, he, hb2, hc2⟩ := h.int hlt
   obtain ⟨rfl, rfl⟩ : b = b2 ∧ off = off2 := by simpa using he
   have HS := Lib.hid (Zjz hlt)
   obtain ⟨m, hm⟩ : ∃ m, (mmF (l.take k)).1 = m := ⟨_, rfl⟩
   have HN : Hid ((mmF (l.take (k + 1))).1 = min m l[k]) := by unfold Hid; rw [HS.out, ← hm]; rfl
   rw [hm]; clear hm he hc; go_wp2; go_round
   case rel => exact ⟨k + 1, by omega, by omega, by go_num, by rw [HN.out]⟩
   case measure => simp [intOf]; omega
  ·obtain rfl : k = l.length := by omega
   rw [List.take_length]; go_wp2; go_ret; exact ⟨rfl, Z03⟩
theorem Zk8 (l : List Int) (A : Option Addr) (c : Nat) (w : World) (h : Rd ic 1 w A l) (h0 : 0 < l.length) (hl : l.length ≤ 100000) (hn : ∀ x ∈ l, -100000 ≤ x ∧ x ≤ 100000) :
  Calls Tryz.prog 69 #[.slice A l.length c] w (RV w (.int .i64 (mmF l).2)) := by
 have H1 := Lib.hid (Zk0 h0 hn)
 have t0 : (l.length < 1) = False := eq_false (by omega)
 have t1 : ((l.length : Int) < 1) = False := eq_false (by omega)
 obtain ⟨b, off, rfl, hb, hc⟩ := h.int h0
 simp only [Nat.add_zero] at hc
 clear hn
 go_enter Tryz.func69, Tryz.ntmps69
 go_wp2
 clear t0 t1
 go_loop [3, 4] (fun m i => ∃ k : Nat, 0 < k ∧ k ≤ l.length ∧ i = .int .i64 k ∧ m = .int .i64 (mmF (l.take k)).2) (fun _ i => l.length - (intOf i).toNat)
 case atStart => exact ⟨1, by omega, by omega, rfl, by rw [H1.out]⟩
 case round =>
  obtain ⟨k, hk0, hk, rfl, rfl⟩ := hrel; by_cases hlt : k < l.length
  ·obtain ⟨b2, off2, he, hb2, hc2⟩ := h.int hlt
   obtain ⟨rfl, rfl⟩ : b = b2 ∧ off = off2 := by simpa using he
   have HS := Lib.hid (Zjz hlt)
   obtain ⟨m, hm⟩ : ∃ m, (mmF (l.take k)).2 = m := ⟨_, rfl⟩
   have HN : Hid ((mmF (l.take (k + 1))).2 = max m l[k]) := by unfold Hid; rw [HS.out, ← hm]; rfl
   rw [hm]; clear hm he hc; go_wp2; go_round
   case rel => exact ⟨k + 1, by omega, by omega, by go_num, by rw [HN.out]⟩
   case measure => simp [intOf]; omega
  ·obtain rfl : k = l.length := by omega
   rw [List.take_length]; go_wp2; go_ret; exact ⟨rfl, Z03⟩
theorem Zk9 {p : Pan} (hok : Zas p) : ∀ x ∈ xsP p, -100000 ≤ x ∧ x ≤ 100000 := by
 intro x hx
 unfold xsP at hx
 obtain ⟨k, hk, rfl⟩ := List.mem_map.1 hx
 rcases List.mem_append.1 hk with hk | hk
 ·obtain ⟨i, hi, rfl⟩ := List.getElem_of_mem hk
  have := (hok.asc false).near i hi
  omega
 ·obtain ⟨i, hi, rfl⟩ := List.getElem_of_mem hk
  have := (hok.asc true).near i hi
  omega
def RWY (w : World) (p : Pan) (e : Ending) (w' : World) : Prop := ∃ x : WyV, e = .returned (.agg #[slV x.1, .int .i64 x.2.1, .int .i64 x.2.2.1, slV x.2.2.2]) ∧ WyO w.heap.size w' x p ∧ Below w.heap.size w w'
theorem Zka {vL vR : Value} (p : Pan) (w : World) (hnm : p.1.length ≤ 1000000) (hL : SlE w vL p.2.2.1) (hR : SlE w vR p.2.2.2) (hE : panE p = 0) (hN : Zbm p = 0) :
  Calls Tryz.prog 112 #[.agg #[sV p.1, .int .i64 p.2.1, vL, vR]] w (RWY w p) := by
 have hok := Zaw hE
 have hs := fun W (hb : Below w.heap.size w W) => Zfd p W hnm (hL.below hb) (hR.below hb)
 have hn := fun W (hb : Below w.heap.size w W) => Zfh p W hnm (hL.below hb) (hR.below hb)
 have o1 := fun W (hb : Below w.heap.size w W) => Zfe p false W hnm (hL.below hb) (hR.below hb)
 have o2 := fun W (hb : Below w.heap.size w W) => Zfe p true W hnm (hL.below hb) (hR.below hb)
 rw [hE, show Z5w 0 (Z6y p) = Z6y p from rfl] at hs
 rw [hN, show Z5w 0 (netL p) = netL p from rfl] at hn
 rw [hE, show Z5w 0 (outP p false) = outP p false from rfl] at o1
 rw [hE, show Z5w 0 (outP p true) = outP p true from rfl] at o2
 have l1 := Zaq p false (hok.side false)
 have l2 := Zaq p true (hok.side true)
 have p1 : 0 < (outP p false).length := (hok.asc false).ne
 have hnear := Zk9 hok
 have hmn := fun A c W hr h0 hl => Zk7 (xsP p) A c W hr h0 hl hnear
 have hmx := fun A c W hr h0 hl => Zk8 (xsP p) A c W hr h0 hl hnear
 rw [← Zk1] at hmn hmx
 have HW : Hid (∀ (A1 A2 : Option Addr) (c1 c2 b : Nat) (W : World), Own trc 4 b 234 W (.slice A1 (Z6y p).length c1) (Z6y p) → OwB b W (.slice A2 (netL p).length c2) (netL p) → WyO b W ((A1, (Z6y p).length, c1), (Zin p).1, (Zin p).2, (A2, (netL p).length, c2)) p) := fun _ _ _ _ _ _ h1 h2 => ⟨h1, rfl, rfl, h2⟩
 have HX : Hid (xsP p = (outP p false ++ outP p true).map (·.1)) := rfl
 obtain ⟨S, hS⟩ : ∃ S, Z6y p = S := ⟨_, rfl⟩
 obtain ⟨N, hNN⟩ : ∃ S, netL p = S := ⟨_, rfl⟩
 obtain ⟨O1, hO1⟩ : ∃ O, outP p false = O := ⟨_, rfl⟩
 obtain ⟨O2, hO2⟩ : ∃ O, outP p true = O := ⟨_, rfl⟩
 obtain ⟨X, hX⟩ : ∃ O, xsP p = O := ⟨_, rfl⟩
 obtain ⟨E1, hE1⟩ : ∃ O, (Zin p).1 = O := ⟨_, rfl⟩
 obtain ⟨E2, hE2⟩ : ∃ O, (Zin p).2 = O := ⟨_, rfl⟩
 rw [hS] at hs HW
 rw [hNN] at hn HW
 rw [hO1] at o1 l1 p1 HX
 rw [hO2] at o2 l2 HX
 rw [hX] at HX hmn hmx
 rw [hE1] at hmn HW
 rw [hE2] at hmx HW
 obtain rfl := HX.out
 clear hS hNN hO1 hO2 hX hE1 hE2 hE hN hok hnear hnm HX
 obtain ⟨AL, cL, rfl, _, _, _⟩ := hL
 obtain ⟨AR, cR, rfl, _, _, _⟩ := hR
 unfold sV at hs hn o1 o2 ⊢
 have hP := (Blk.new w 97 #[.string ⟨p.1.toArray⟩, .int .i64 p.2.1, .slice AL p.2.2.1.length cL, .slice AR p.2.2.2.length cR]).alloc (.cells #[.slice none 0 0, .int .i64 0, .int .i64 0, .slice none 0 0] 121)
 have hZ := Blk.new1 w (.cells #[.string ⟨p.1.toArray⟩, .int .i64 p.2.1, .slice AL p.2.2.1.length cL, .slice AR p.2.2.2.length cR] 97) 121 #[.slice none 0 0, .int .i64 0, .int .i64 0, .slice none 0 0]
 have fhP := hP.facts
 go_enter Tryz.func112, Tryz.ntmps112
 go_wp2_with fail
 refine (hs _ (by (repeat first|exact J0|assumption|(apply J1;assumption)|apply J2|apply J3|apply J4))).mono ?_
 rintro e w2 ⟨v2, rfl, hO2, hb2⟩
 replace hP := hP.below (show Below _ _ w2 by (repeat first|exact J0|assumption|(apply J1;assumption)|apply J2|apply J3|apply J4))
 replace fhP := hP.facts
 replace hZ := hZ.below (show Below _ _ w2 by (repeat first|exact J0|assumption|(apply J1;assumption)|apply J2|apply J3|apply J4))
 replace fhZ := hZ.facts
 have hz2 : w.heap.size + 1 < w2.heap.size := hZ.lt
 go_wp2_with fail
 refine (hn _ (by (repeat first|exact J0|assumption|(apply J1;assumption)|apply J2|apply J3|apply J4))).mono ?_
 rintro e w3 ⟨v3, rfl, hO3, hb3⟩
 replace hP := hP.below (show Below _ _ w3 by (repeat first|exact J0|assumption|(apply J1;assumption)|apply J2|apply J3|apply J4))
 replace fhP := hP.facts
 replace hZ := hZ.below (show Below _ _ w3 by (repeat first|exact J0|assumption|(apply J1;assumption)|apply J2|apply J3|apply J4))
 replace fhZ := hZ.facts
 go_wp2_with fail
 refine (o1 _ (by (repeat first|exact J0|assumption|(apply J1;assumption)|apply J2|apply J3|apply J4))).mono ?_
 rintro e w4 ⟨v4, rfl, hO4, hb4⟩
 replace hP := hP.below (show Below _ _ w4 by (repeat first|exact J0|assumption|(apply J1;assumption)|apply J2|apply J3|apply J4))
 replace fhP := hP.facts
 replace hZ := hZ.below (show Below _ _ w4 by (repeat first|exact J0|assumption|(apply J1;assumption)|apply J2|apply J3|apply J4))
 replace fhZ := hZ.facts
 go_wp2_with fail
 refine (o2 _ (by (repeat first|exact J0|assumption|(apply J1;assumption)|apply J2|apply J3|apply J4))).mono ?_
 rintro e w5 ⟨v5, rfl, hO5, hb5⟩
 replace hP := hP.below (show Below _ _ w5 by (repeat first|exact J0|assumption|(apply J1;assumption)|apply J2|apply J3|apply J4))
 replace fhP := hP.facts
 replace hZ := hZ.below (show Below _ _ w5 by (repeat first|exact J0|assumption|(apply J1;assumption)|apply J2|apply J3|apply J4))
 replace fhZ := hZ.facts
 obtain ⟨A2, c2, rfl⟩ := hO2.shape
 obtain ⟨A3, c3, rfl⟩ := hO3.shape
 obtain ⟨A4, c4, rfl⟩ := hO4.shape
 obtain ⟨A5, c5, rfl⟩ := hO5.shape
 have hS4 := ((hO4.rd Z21).below (show Below w4.heap.size w4 w5 by (repeat first|exact J0|assumption|(apply J1;assumption)|apply J2|apply J3|apply J4))).alloc (.cells #[.slice A4 O1.length c4, .slice A5 O2.length c5] 209)
 have hS5 := (hO5.rd Z21).alloc (.cells #[.slice A4 O1.length c4, .slice A5 O2.length c5] 209)
 have hK5 := Blk.new w5 209 #[.slice A4 O1.length c4, .slice A5 O2.length c5]
 have hSt := (hO2.below (show Below w2.heap.size w2 w5 by (repeat first|exact J0|assumption|(apply J1;assumption)|apply J2|apply J3|apply J4))).base_mono (show w.heap.size + 2 ≤ _ by simp)
 have hNt := (hO3.below (show Below w3.heap.size w3 w5 by (repeat first|exact J0|assumption|(apply J1;assumption)|apply J2|apply J3|apply J4))).base_mono (show w.heap.size + 2 ≤ w2.heap.size from hz2)
 have hbw5 : Below w.heap.size w w5 := by (repeat first|exact J0|assumption|(apply J1;assumption)|apply J2|apply J3|apply J4)
 clear hs hn o1 o2 hO2 hO3 hO4 hO5 hb2 hb3 hb4 hb5 fhP hP
 go_wp2_with fail
 refine (Zg8 O1 O2 A4 A5 c4 c5 w5.heap.size 2 _ hK5.lt (by rw [hK5.cell]; rfl) (by rw [hK5.cell]; rfl) hS4 hS5 p1 (by omega) (by omega)).mono ?_
 rintro e w6 ⟨v6, rfl, hO6, hb6⟩
 obtain ⟨A6, c6, rfl⟩ := hO6.shape
 obtain ⟨_, _, he6, _, _, hr6⟩ := hO6.rd Z21
 obtain ⟨rfl, rfl⟩ : A6 = _ ∧ c6 = _ := by simpa using he6
 clear hS4 hS5 hK5
 have hl6 : (O1 ++ O2).length ≤ 2000 := by rw [List.length_append]; omega
 have h06 : 0 < (O1 ++ O2).length := by rw [List.length_append]; omega
 obtain ⟨L6, hL6⟩ : ∃ L, O1 ++ O2 = L := ⟨_, rfl⟩
 rw [hL6] at hr6 hl6 h06 hmn hmx ⊢
 have hmk := fun W (hb : Below w6.heap.size w6 W) => Zk6 L6 A6 c6 W (hr6.below hb) (by omega)
 have hx0 : 0 < (L6.map (·.1)).length := by rw [List.length_map]; exact h06
 have hx1 : (L6.map (·.1)).length ≤ 100000 := by rw [List.length_map]; omega
 obtain ⟨X7, hX7⟩ : ∃ X, L6.map (·.1) = X := ⟨_, rfl⟩
 rw [hX7] at hmk hx0 hx1 hmn hmx
 clear hL6 hX7 he6 h06 hl6 p1 l1 l2
 go_wp2_with fail
 refine (hmk _ (by (repeat first|exact J0|assumption|(apply J1;assumption)|apply J2|apply J3|apply J4))).mono ?_
 rintro e w7 ⟨v7, rfl, hO7, hb7⟩
 obtain ⟨A7, c7, rfl⟩ := hO7.shape
 obtain ⟨_, _, he7, _, _, hr7⟩ := hO7.rd Zk2
 obtain ⟨rfl, rfl⟩ : A7 = _ ∧ c7 = _ := by simpa using he7
 clear he7
 go_wp2_with fail
 refine (hmn A7 c7 _ hr7 hx0 hx1).mono ?_
 rintro e w8 ⟨rfl, hb8⟩
 go_wp2_with fail
 refine (hmx A7 c7 _ (hr7.below (by (repeat first|exact J0|assumption|(apply J1;assumption)|apply J2|apply J3|apply J4))) hx0 hx1).mono ?_
 rintro e w9 ⟨rfl, hb9⟩
 have hb59 : Below w5.heap.size w5 w9 := by (repeat first|exact J0|assumption|(apply J1;assumption)|apply J2|apply J3|apply J4)
 have hZ9 := hZ.below hb59
 have hSt9 := hSt.below hb59
 have hNt9 := hNt.below hb59
 go_wp2_with (refine Z4n hZ9 rfl _ _ _ rfl rfl rfl (by rfl) (by kernel_rfl) (by kernel_rfl) ?_; intro w12 hZ12 hc12; have f12 := hZ12.facts)
 refine bodyPost_ret (v := .agg #[.slice A2 S.length c2, .int .i64 E1, .int .i64 E2, .slice A3 N.length c3]) (by simp [results, Tryz.results112, go_sem, f12]) rfl ?_
 exact ⟨_, rfl, (HW.out _ _ _ _ _ _ (hSt9.chg hc12 (by simp)) (hNt9.chg hc12 (by simp))).lower (by omega), Z9f (Z08 hb59 hbw5) hc12 (by omega)⟩
end Go.Proofs.YtpcgeihemkhkjaaGreatDoor
