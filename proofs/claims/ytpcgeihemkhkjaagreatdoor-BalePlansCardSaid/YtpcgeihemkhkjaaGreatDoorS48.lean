/- The law's helper net; the reference's Net, walked. Conditions: the panel is valid. -/
import Derived.Test.YtpcgeihemkhkjaaGreatDoorS21
import Derived.Test.YtpcgeihemkhkjaaGreatDoorS43
import Derived.Test.YtpcgeihemkhkjaaGreatDoorS04
import Derived.Test.YtpcgeihemkhkjaaGreatDoorS46
import Derived.Test.YtpcgeihemkhkjaaGreatDoorS40
import Derived.Test.YtpcgeihemkhkjaaGreatDoorS14
import Derived.Test.YtpcgeihemkhkjaaGreatDoorS47
import Derived.Test.YtpcgeihemkhkjaaGreatDoorS44
import Derived.Test.YtpcgeihemkhkjaaGreatDoorS35
import Derived.Test.YtpcgeihemkhkjaaGreatDoorS12
import Derived.Test.YtpcgeihemkhkjaaGreatDoorS38
import Derived.Test.YtpcgeihemkhkjaaGreatDoorS05
namespace Go.Proofs.YtpcgeihemkhkjaaGreatDoor
open Go.RowKit Go.ChangeMaps
set_option maxHeartbeats 4000000
set_option maxRecDepth 100000
attribute [local go_sem] Oper.semAt_some
theorem Zu8 (x y : Int) (w : World) : Calls Tryz.prog 148 #[.int .i64 x, .int .i64 y] w (RV w (.bool (Z1a x y == 0))) := by
 have hc := fun W => Z1s x y W
 obtain ⟨E, hE⟩ : ∃ E, Z1a x y = E := ⟨_, rfl⟩
 rw [hE] at hc ⊢
 clear hE
 go_enter Tryz.func148, Tryz.ntmps148
 go_wp2_with fail
 refine (hc _).mono ?_
 rintro e w1 ⟨rfl, hb1⟩
 go_wp2
 go_ret
 exact ⟨rfl, by (repeat first|exact J0|assumption|(apply J1;assumption)|apply J2|apply J3|apply J4)⟩
theorem Zu9 {x y : Int} (hx : -100000 ≤ x ∧ x ≤ 100000) (hy : -100000 ≤ y ∧ y ≤ 100000) (h : (x + y) % 2 = 0) : (Z1a x y == 0) = true := by
 rw [Ze1 hx hy h]
 rfl
theorem Zua {x y : Int} (hx : -100000 ≤ x ∧ x ≤ 100000) (hy : -100000 ≤ y ∧ y ≤ 100000) (h : ¬ (x + y) % 2 = 0) : (Z1a x y == 0) = false := by
 unfold Z1a farB
 rw [decide_eq_false (by omega), decide_eq_false (by omega), decide_eq_false (by omega), decide_eq_false (by omega), if_neg h]
 rfl
theorem Zub {vL vR : Value} (p : Pan) (w : World) (hL : SlE w vL p.2.2.1) (hR : SlE w vR p.2.2.2) (hok : Zas p) :
  Calls Tryz.prog 86 #[.agg #[sV p.1, .int .i64 p.2.1, vL, vR]] w (RB w (netL p)) := by
 have cS := fun W (hb : Below w.heap.size w W) => Zss p W (hL.below hb) (hR.below hb) hok
 have hS := Zb2 hok
 have hSl := Zb4 hok
 have HN : Hid (netL p = netN (Z6y p) (Z6y p).length) := rfl
 obtain ⟨AL, cL, rfl, _, _, _⟩ := hL
 obtain ⟨AR, cR, rfl, _, _, _⟩ := hR
 unfold sV at cS ⊢
 obtain ⟨S, hSS⟩ : ∃ S, Z6y p = S := ⟨_, rfl⟩
 rw [hSS] at cS hS hSl HN
 obtain ⟨T, hT⟩ : ∃ T, netL p = T := ⟨_, rfl⟩
 rw [hT] at HN ⊢
 have hP := Blk.new w 86 #[.string ⟨p.1.toArray⟩, .int .i64 p.2.1, .slice AL p.2.2.1.length cL, .slice AR p.2.2.2.length cR]
 have fhP := hP.facts
 have HSN := Lib.hid hS
 have HLN := Lib.hid (Zbg hS)
 clear hok hSS hT hS
 go_enter Tryz.func86, Tryz.ntmps86
 go_wp2_with fail
 refine (cS _ (by (repeat first|exact J0|assumption|(apply J1;assumption)|apply J2|apply J3|apply J4))).mono ?_
 rintro e w2 ⟨v2, rfl, hO2, hb2⟩
 replace hP := hP.below (show Below _ _ w2 by (repeat first|exact J0|assumption|(apply J1;assumption)|apply J2|apply J3|apply J4))
 replace fhP := hP.facts
 obtain ⟨A2, c2, rfl⟩ := hO2.shape
 obtain ⟨_, _, he2, _, _, hr2⟩ := hO2.rd Z8k
 obtain ⟨rfl, rfl⟩ : A2 = _ ∧ c2 = _ := by simpa using he2
 have hbw2 : Below w.heap.size w w2 := by (repeat first|exact J0|assumption|(apply J1;assumption)|apply J2|apply J3|apply J4)
 clear hP fhP hb2 he2 cS hO2
 go_wp2
 go_loopw [3, 5] (fun s3 s5 wr => ∃ k : Nat, k ≤ S.length ∧ s5 = .int .i64 k ∧ OwB w2.heap.size wr s3 (netN S k) ∧ Below w2.heap.size w2 wr) (fun _ s _ => S.length - (intOf s).toNat)
 case atStart => exact ⟨0, Nat.zero_le _, rfl, Own.nil_, Z03⟩
 case round =>
  obtain ⟨k, hk, rfl, hO, hbk⟩ := hrel; obtain ⟨wo, rfl⟩ : ∃ x, x = wr := ⟨_, rfl⟩
  have hl := HLN.out k hk
  by_cases hlt : k < S.length
  ·obtain ⟨b, off, rfl, hb, e0, e1, e2, e3⟩ := (hr2.below hbk).strp hlt
   have hs := HSN.out _ (List.getElem_mem hlt)
   have HT : Hid (netN S (k + 1) = netN S k ++ Z71 S[k] (k : Int)) := by
    unfold Hid; rw [netN, List.getD_eq_getElem?_getD, List.getElem?_eq_getElem hlt, Option.getD_some]
   obtain ⟨⟨l0, l1, u0, u1⟩, hx⟩ : ∃ z, S[k] = z := ⟨_, rfl⟩
   rw [hx] at e0 e1 e2 e3 HT hs; unfold Zaz at hs; simp only at e0 e1 e2 e3 hs
   clear hx; obtain ⟨N, hN⟩ : ∃ N, (l1 - l0 + 1).toNat = N := ⟨_, rfl⟩
   have hN2 : (N : Int) ≤ 200001 := by omega
   have HNN := Lib.hid hN
   have HB : Hid (Z71 (l0, l1, u0, u1) (k : Int) = Z70 (l0, l1, u0, u1) (k : Int) N) := by unfold Hid Z71; rw [hN]
   obtain ⟨Z, hZ⟩ : ∃ Z : Strp, (l0, l1, u0, u1) = Z := ⟨_, rfl⟩
   have HZ := Lib.hid hZ
   rw [hZ] at HT HB; have HL := Lib.hid (fun n => Zbe Z (k : Int) n)
   have HX : Hid (∀ n, Z70 Z (k : Int) (n + 1) = Z70 Z (k : Int) n ++ Z6z Z (k : Int) (l0 + (n : Int))) := by intro n; rw [← hZ]; rfl
   obtain ⟨L0, hL0⟩ : ∃ L, netN S k = L := ⟨_, rfl⟩
   rw [hL0] at hO hl HT; clear hZ hN hL0; obtain ⟨AO, cO, rfl⟩ := hO.shape; have hS6 := Blk.new wo 223 #[.int .i64 l0, .int .i64 l1, .int .i64 u0, .int .i64 u1]
   have fS6 := hS6.facts
   have hO6 := hO.alloc (.cells #[.int .i64 l0, .int .i64 l1, .int .i64 u0, .int .i64 u1] 223)
   have hb6 := Z04 hbk (.cells #[.int .i64 l0, .int .i64 l1, .int .i64 u0, .int .i64 u1] 223)
   go_wp2; go_loopw [3, 7] (fun s3 s7 wr => ∃ n : Nat, n ≤ N ∧ s7 = .int .i64 (l0 + (n : Int)) ∧ OwB w2.heap.size wr s3 (L0 ++ Z70 Z (k : Int) n) ∧ Blk wr wo.heap.size 223 #[.int .i64 l0, .int .i64 l1, .int .i64 u0, .int .i64 u1] ∧ Below w2.heap.size w2 wr) (fun _ s7 _ => (l1 + 1 - intOf s7).toNat)
   case atStart => exact ⟨0, Nat.zero_le _, by simp, by simpa [Z70] using hO6, hS6, hb6⟩
   case round =>
    clear hS6 fS6 hO6 hb6 hO hbk; obtain ⟨n, hn, rfl, hO, hS, hbk⟩ := hrel; obtain ⟨wx, rfl⟩ : ∃ x, x = wr := ⟨_, rfl⟩
    have hnl := HL.out n
    have hX1 := HX.out n
    have HX1 : Hid (L0 ++ Z70 Z (k : Int) (n + 1) = (L0 ++ Z70 Z (k : Int) n) ++ Z6z Z (k : Int) (l0 + (n : Int))) := by unfold Hid; rw [hX1, List.append_assoc]
    clear hX1; obtain ⟨L, hL⟩ : ∃ L, L0 ++ Z70 Z (k : Int) n = L := ⟨_, rfl⟩
    have hll : L.length ≤ 110000000 := by rw [← hL, List.length_append]; omega
    have HM0 := Lib.hid hL
    rw [hL] at hO HX1; clear hL; obtain ⟨x, hx⟩ : ∃ x, l0 + (n : Int) = x := ⟨_, rfl⟩
    rw [hx] at HX1; have fS := hS.facts
    by_cases hlt2 : x ≤ l1
    ·have t0 : (x ≤ l1) = True := eq_true hlt2
     have hxn : -100000 ≤ x ∧ x ≤ 100000 := by omega
     obtain ⟨hx1, hx2⟩ := hxn; have hnn : n + 1 ≤ N := by have := HNN.out; omega
     have HNX : Hid (l0 + ((n + 1 : Nat) : Int) = x + 1) := by unfold Hid; push_cast; omega
     have ck := fun W => Zu8 x (k : Int) W
     rw [hx]; clear hx; by_cases he : (x + (k : Int)) % 2 = 0
     ·have HE : Hid (L0 ++ Z70 Z (k : Int) (n + 1) = L ++ Zb8 Z (k : Int) x 2) := by unfold Hid; rw [HX1.out, Zb9 he]
      rw [Zu9 ⟨hx1, hx2⟩ (by omega) he] at ck
      clear he HX1; obtain ⟨AO, cO, rfl⟩ := hO.shape; go_wp2; go_loopw [3, 8] (fun s3 s8 wr => ∃ (j : Nat) (m : Int), ((j = 0 ∧ m = -1) ∨ (j = 1 ∧ m = 1) ∨ (j = 2 ∧ m = 3)) ∧ s8 = .int .i64 m ∧ OwB w2.heap.size wr s3 (L ++ Zb8 Z (k : Int) x j) ∧ Blk wr wo.heap.size 223 #[.int .i64 l0, .int .i64 l1, .int .i64 u0, .int .i64 u1] ∧ Below w2.heap.size w2 wr) (fun _ s8 _ => (3 - intOf s8).toNat)
      case atStart => exact ⟨0, -1, .inl ⟨rfl, rfl⟩, rfl, by simpa [Zb8] using hO, hS, hbk⟩
      case round =>
       clear hO hS hbk fS; obtain ⟨j, m, hjm, rfl, hO, hS, hbk⟩ := hrel; obtain ⟨wi, rfl⟩ : ∃ x, x = wr := ⟨_, rfl⟩
       have fS := hS.facts
       have hjl := Zbc Z (k : Int) x j
       obtain ⟨M, hM⟩ : ∃ M, L ++ Zb8 Z (k : Int) x j = M := ⟨_, rfl⟩
       have hMl : M.length ≤ 200000000 := by rw [← hM, List.length_append]; omega
       rw [hM] at hO; obtain ⟨AO, cO, rfl⟩ := hO.shape; rcases hjm with ⟨rfl, rfl⟩ | ⟨rfl, rfl⟩ | ⟨rfl, rfl⟩
       ·have HM : Hid (L ++ Zb8 Z (k : Int) x 1 = M ++ Zb7 Z (k : Int) x (-1)) := by unfold Hid; rw [← hM]; simp [Zb8]
        clear hM hjl; go_wp2_with fail; refine (ck _).mono ?_
        rintro e w8 ⟨rfl, hb8⟩; have hS8 := hS.below hb8
        have fS8 := hS8.facts
        have hO8 := hO.below hb8
        have hb08 : Below w2.heap.size w2 w8 := Z08 hb8 hbk
        clear fS; by_cases h1 : u0 ≤ x + -1
        ·have q1 : (u0 ≤ x + -1) = True := eq_true h1
         by_cases h2 : x + -1 ≤ u1
         ·have q2 : (x + -1 ≤ u1) = True := eq_true h2
          have HA : Hid (Zb7 Z (k : Int) x (-1) = [(x, (k : Int), -1)]) := by unfold Hid Zb7; rw [← HZ.out, if_pos ⟨h1, h2⟩]
          clear h1 h2; have hu := Sl.oneG (enc := bc) (sz := 3) w8 111 (x, (k : Int), -1) #[.int .i64 x, .int .i64 (k : Int), .int .i64 (-1)] rfl
          go_wp2_with (at_builtin; refine Z3y rfl Z3v Z20 Z3z _ _ rfl w2.heap.size _ _ _ _ rfl rfl (hO8.alloc _) hu (by simp [maxLen]; omega) (by simp; omega) (by have := hb08.size; simp; omega) ?_; intro v2 w10 hown2 hgr2)
          go_roundw; case rel => exact ⟨1, 1, by decide, rfl, by rw [HM.out, HA.out]; exact hown2, (hS8.alloc _).grown hgr2 (hO8.ne_blk hS8 (by decide)), Z09 hgr2 (Z04 hb08 _) (fun k e => (hO8.lt k e).1)⟩
          case measure => simp [intOf]
         ·have q2 : (x + -1 ≤ u1) = False := eq_false h2
          have HA : Hid (Zb7 Z (k : Int) x (-1) = []) := by unfold Hid Zb7; rw [← HZ.out, if_neg (fun h => h2 h.2)]
          clear h1 h2; go_wp2; go_roundw; case rel => exact ⟨1, 1, by decide, rfl, by rw [HM.out, HA.out, List.append_nil]; exact hO8, hS8, hb08⟩
          case measure => simp [intOf]
        ·have q1 : (u0 ≤ x + -1) = False := eq_false h1
         have HA : Hid (Zb7 Z (k : Int) x (-1) = []) := by unfold Hid Zb7; rw [← HZ.out, if_neg (fun h => h1 h.1)]
         clear h1; go_wp2; go_roundw; case rel => exact ⟨1, 1, by decide, rfl, by rw [HM.out, HA.out, List.append_nil]; exact hO8, hS8, hb08⟩
         case measure => simp [intOf]
       ·have HM : Hid (L ++ Zb8 Z (k : Int) x 2 = M ++ Zb7 Z (k : Int) x 1) := by unfold Hid; rw [← hM]; simp [Zb8]
        clear hM hjl; go_wp2_with fail; refine (ck _).mono ?_
        rintro e w8 ⟨rfl, hb8⟩; have hS8 := hS.below hb8
        have fS8 := hS8.facts
        have hO8 := hO.below hb8
        have hb08 : Below w2.heap.size w2 w8 := Z08 hb8 hbk
        clear fS; by_cases h1 : u0 ≤ x + 1
        ·have q1 : (u0 ≤ x + 1) = True := eq_true h1
         by_cases h2 : x + 1 ≤ u1
         ·have q2 : (x + 1 ≤ u1) = True := eq_true h2
          have HA : Hid (Zb7 Z (k : Int) x (1) = [(x, (k : Int), 1)]) := by unfold Hid Zb7; rw [← HZ.out, if_pos ⟨h1, h2⟩]
          clear h1 h2; have hu := Sl.oneG (enc := bc) (sz := 3) w8 111 (x, (k : Int), 1) #[.int .i64 x, .int .i64 (k : Int), .int .i64 (1)] rfl
          go_wp2_with (at_builtin; refine Z3y rfl Z3v Z20 Z3z _ _ rfl w2.heap.size _ _ _ _ rfl rfl (hO8.alloc _) hu (by simp [maxLen]; omega) (by simp; omega) (by have := hb08.size; simp; omega) ?_; intro v2 w10 hown2 hgr2)
          go_roundw; case rel => exact ⟨2, 3, by decide, rfl, by rw [HM.out, HA.out]; exact hown2, (hS8.alloc _).grown hgr2 (hO8.ne_blk hS8 (by decide)), Z09 hgr2 (Z04 hb08 _) (fun k e => (hO8.lt k e).1)⟩
          case measure => simp [intOf]
         ·have q2 : (x + 1 ≤ u1) = False := eq_false h2
          have HA : Hid (Zb7 Z (k : Int) x (1) = []) := by unfold Hid Zb7; rw [← HZ.out, if_neg (fun h => h2 h.2)]
          clear h1 h2; go_wp2; go_roundw; case rel => exact ⟨2, 3, by decide, rfl, by rw [HM.out, HA.out, List.append_nil]; exact hO8, hS8, hb08⟩
          case measure => simp [intOf]
        ·have q1 : (u0 ≤ x + 1) = False := eq_false h1
         have HA : Hid (Zb7 Z (k : Int) x (1) = []) := by unfold Hid Zb7; rw [← HZ.out, if_neg (fun h => h1 h.1)]
         clear h1; go_wp2; go_roundw; case rel => exact ⟨2, 3, by decide, rfl, by rw [HM.out, HA.out, List.append_nil]; exact hO8, hS8, hb08⟩
         case measure => simp [intOf]
       ·have HM : Hid (L0 ++ Z70 Z (k : Int) (n + 1) = M) := by unfold Hid; rw [HE.out, hM]
        clear hM hjl; go_wp2; go_roundw; case rel => exact ⟨n + 1, hnn, by rw [HNX.out], by rw [HM.out]; exact hO, hS, hbk⟩
        case measure => simp [intOf]; omega
     ·have HE : Hid (L0 ++ Z70 Z (k : Int) (n + 1) = L) := by unfold Hid; rw [HX1.out, Zba he, List.append_nil]
      rw [Zua ⟨hx1, hx2⟩ (by omega) he] at ck
      clear he HX1; obtain ⟨AO, cO, rfl⟩ := hO.shape; go_wp2; go_loopw [3, 8] (fun s3 s8 wr => ∃ m : Int, (m = -1 ∨ m = 1 ∨ m = 3) ∧ s8 = .int .i64 m ∧ OwB w2.heap.size wr s3 L ∧ Blk wr wo.heap.size 223 #[.int .i64 l0, .int .i64 l1, .int .i64 u0, .int .i64 u1] ∧ Below w2.heap.size w2 wr) (fun _ s8 _ => (3 - intOf s8).toNat)
      case atStart => exact ⟨-1, .inl rfl, rfl, hO, hS, hbk⟩
      case round =>
       clear hO hS hbk fS; obtain ⟨m, hjm, rfl, hO, hS, hbk⟩ := hrel; obtain ⟨wi, rfl⟩ : ∃ x, x = wr := ⟨_, rfl⟩
       have fS := hS.facts
       rcases hjm with rfl | rfl | rfl
       ·go_wp2_with fail
        refine (ck _).mono ?_
        rintro e w8 ⟨rfl, hb8⟩; have hb08 : Below w2.heap.size w2 w8 := Z08 hb8 hbk
        go_wp2; go_roundw; case rel => exact ⟨1, .inr (.inl rfl), rfl, hO.below hb8, hS.below hb8, hb08⟩
        case measure => simp [intOf]
       ·go_wp2_with fail
        refine (ck _).mono ?_
        rintro e w8 ⟨rfl, hb8⟩; have hb08 : Below w2.heap.size w2 w8 := Z08 hb8 hbk
        go_wp2; go_roundw; case rel => exact ⟨3, .inr (.inr rfl), rfl, hO.below hb8, hS.below hb8, hb08⟩
        case measure => simp [intOf]
       ·go_wp2
        go_roundw; case rel => exact ⟨n + 1, hnn, by rw [HNX.out], by rw [HE.out]; exact hO, hS, hbk⟩
        case measure => simp [intOf]; omega
    ·have t0 : (x ≤ l1) = False := eq_false hlt2
     have HE : Hid (netN S (k + 1) = L) := by
      have h1 := HNN.out
      obtain rfl : n = N := by omega
      unfold Hid; rw [HT.out, HB.out]; exact HM0.out
     obtain ⟨AO, cO, rfl⟩ := hO.shape; rw [hx]; clear hx HX1; go_wp2; go_roundw; case rel => exact ⟨k + 1, by omega, by go_num, by rw [HE.out]; exact hO, hbk⟩
     case measure => simp [intOf]; omega
  ·obtain rfl : k = S.length := by omega
   rw [← HN.out] at hO; go_wp2; go_ret; exact ⟨_, rfl, hO.base_mono hbw2.size, Z08 hbk hbw2⟩
def fewB (n : Nat) : Bool := decide (n ≤ 8) || (decide (16 < n) && decide (n ≤ 18))
theorem l5few_any (n : Nat) (A : Option Addr) (c : Nat) (w : World) : Calls Tryz.prog 20 #[.slice A n c] w (RV w (.bool (fewB n))) := by
 have HF : Hid (fewB n = (decide (n ≤ 8) || (decide (16 < n) && decide (n ≤ 18)))) := rfl
 obtain ⟨F, hF⟩ : ∃ z, fewB n = z := ⟨_, rfl⟩
 rw [hF] at HF ⊢
 clear hF
 by_cases h1 : n ≤ 8
 ·have t1 : ((n : Int) ≤ 8) = True := eq_true (by omega)
  have HE : Hid (F = true) := by unfold Hid; rw [HF.out, decide_eq_true h1]; rfl
  clear h1 HF; go_enter Tryz.func20, Tryz.ntmps20
  go_wp2; go_ret; exact ⟨by rw [HE.out]; rfl, by (repeat first|exact J0|assumption|(apply J1;assumption)|apply J2|apply J3|apply J4)⟩
 ·have t1 : ((n : Int) ≤ 8) = False := eq_false (by omega)
  by_cases h2 : 16 < n
  ·have t2 : (16 < (n : Int)) = True := eq_true (by omega)
   by_cases h3 : n ≤ 18
   ·have t3 : ((n : Int) ≤ 18) = True := eq_true (by omega)
    have HE : Hid (F = true) := by unfold Hid; rw [HF.out, decide_eq_true h2, decide_eq_true h3]; simp
    clear h1 h2 h3 HF; go_enter Tryz.func20, Tryz.ntmps20
    go_wp2; go_ret; exact ⟨by rw [HE.out]; rfl, by (repeat first|exact J0|assumption|(apply J1;assumption)|apply J2|apply J3|apply J4)⟩
   ·have t3 : ((n : Int) ≤ 18) = False := eq_false (by omega)
    have HE : Hid (F = false) := by unfold Hid; rw [HF.out, decide_eq_false h1, decide_eq_false h3]; simp
    clear h1 h2 h3 HF; go_enter Tryz.func20, Tryz.ntmps20
    go_wp2; go_ret; exact ⟨by rw [HE.out]; rfl, by (repeat first|exact J0|assumption|(apply J1;assumption)|apply J2|apply J3|apply J4)⟩
  ·have t2 : (16 < (n : Int)) = False := eq_false (by omega)
   have HE : Hid (F = false) := by unfold Hid; rw [HF.out, decide_eq_false h1, decide_eq_false h2]; simp
   clear h1 h2 HF; go_enter Tryz.func20, Tryz.ntmps20
   go_wp2; go_ret; exact ⟨by rw [HE.out]; rfl, by (repeat first|exact J0|assumption|(apply J1;assumption)|apply J2|apply J3|apply J4)⟩
def ldB (l : List Plc) (E e : Int) (m : List Plc) : Bool := if e ≠ 0 then (decide (l = []) && E == e) else (E == 0 && decide (l = m))
theorem l5laid_any {A B : Option Addr} {c d : Nat} (l m : List Plc) (E e : Int) (w : World) (h : Rd plc 3 w A l) (h' : Rd plc 3 w B m) (hl : l.length ≤ 100000) (hm : m.length ≤ 100000) :
  Calls Tryz.prog 27 #[.slice A l.length c, .int .i64 E, .int .i64 e, .slice B m.length d] w (RV w (.bool (ldB l E e m))) := by
 by_cases he : e = 0
 ·subst he
  by_cases hE : E = 0
  ·subst hE
   have HN : Hid (ldB l 0 0 m = decide (l = m)) := by unfold Hid ldB; simp
   have cP := Zrf l A c w h hl
   have cS := fun (A' : Option Addr) (c' : Nat) W' (hr : Rd plc 3 W' A' l) (hb : Below w.heap.size w W') => Zrd l m A' B c' d W' hr (h'.below hb) hl hm
   obtain ⟨q, hq⟩ : ∃ z, decide (l = m) = z := ⟨_, rfl⟩
   rw [hq] at HN cS; clear hq h h'; go_enter Tryz.func27, Tryz.ntmps27
   go_wp2_with fail; refine (cP).mono ?_
   rintro e w1 ⟨v1, rfl, hO1, hb1⟩; obtain ⟨A1, c1, rfl⟩ := hO1.shape; obtain ⟨_, _, he1, _, _, r1⟩ := hO1.rd Zj7
   obtain ⟨rfl, rfl⟩ : A1 = _ ∧ c1 = _ := by simpa using he1
   go_wp2_with fail; refine (cS _ _ _ r1 hb1).mono ?_
   rintro e w2 ⟨rfl, hb2⟩; go_wp2; go_ret; exact ⟨by rw [HN.out]; rfl, by (repeat first|exact J0|assumption|(apply J1;assumption)|apply J2|apply J3|apply J4)⟩
  ·have HN : Hid (ldB l E 0 m = false) := by unfold Hid ldB; simp [hE]
   have hE' : (E == 0) = false := by simp [hE]
   clear hE; go_enter Tryz.func27, Tryz.ntmps27
   go_wp2; go_ret; exact ⟨by rw [HN.out]; rfl, by (repeat first|exact J0|assumption|(apply J1;assumption)|apply J2|apply J3|apply J4)⟩
 ·have he' : (e != 0) = true := by simp [he]
  cases l with
  | nil =>
   have HN : Hid (ldB [] E e m = (E == e)) := by unfold Hid ldB; rw [if_pos he]; simp
   clear he; go_enter Tryz.func27, Tryz.ntmps27
   go_wp2; go_ret; exact ⟨by rw [HN.out]; rfl, by (repeat first|exact J0|assumption|(apply J1;assumption)|apply J2|apply J3|apply J4)⟩
  | cons b l =>
   have HN : Hid (ldB (b :: l) E e m = false) := by unfold Hid ldB; rw [if_pos he]; simp
   have hlz : ((((b :: l).length : Nat) : Int) == 0) = false := beq_false_of_ne (by simp; omega)
   obtain ⟨n, hn⟩ : ∃ n, (b :: l).length = n := ⟨_, rfl⟩
   rw [hn] at hlz ⊢; clear he hn h h' hl; go_enter Tryz.func27, Tryz.ntmps27
   go_wp2; go_ret; exact ⟨by rw [HN.out]; rfl, by (repeat first|exact J0|assumption|(apply J1;assumption)|apply J2|apply J3|apply J4)⟩
theorem ldB_none {E : Int} (h : E ≠ 0) : ldB [] E E [] = true := by
 unfold ldB
 rw [if_pos h]
 simp
theorem ldB_same (m : List Plc) : ldB m 0 0 m = true := by
 unfold ldB
 rw [if_neg (by simp)]
 simp
theorem Rd.row {w : World} {A : Option Addr} {l : List SlV} (h : Rd rc 1 w A l) {k : Nat} (hk : k < l.length) : ∃ b off, A = some ⟨b, off, none⟩ ∧ b < w.heap.size ∧ w.cell? ⟨b, off + k, none⟩ = some (slV l[k]) := by
 obtain ⟨b, off, e, hlt, hc⟩ := h k l[k] (List.getElem?_eq_getElem hk)
 exact ⟨b, off, e, hlt, by simpa using hc 0 _ rfl⟩
theorem OwRR.get {base : Nat} {w : World} {A : Option Addr} {c : Nat} {n : Nat} {Ls : List (List Bar)} (h : OwRR base w (.slice A n c) Ls) (hn : Ls.length = n) {j : Nat} (hj : j < Ls.length) :
  ∃ b off A1 c1, A = some ⟨b, off, none⟩ ∧ b < w.heap.size ∧ w.cell? ⟨b, off + j, none⟩ = some (.slice A1 Ls[j].length c1) ∧ OwB base w (.slice A1 Ls[j].length c1) Ls[j] := by
 obtain ⟨ts, hT, hR⟩ := h
 have hl := hR.len
 obtain ⟨A', c', he, _, _, hr⟩ := hT.rd Zd5
 obtain ⟨rfl, _, rfl⟩ : A = A' ∧ n = ts.length ∧ c = c' := by simpa using he
 obtain ⟨b, off, rfl, hb, e⟩ := hr.row (k := j) (by omega)
 have hg := hR.get (i := j) (by omega) hj
 obtain ⟨A1, c1, hs⟩ := hg.shape
 rw [hs] at e hg
 exact ⟨b, off, A1, c1, rfl, hb, e, hg⟩
theorem sameNets_any {v u : Value} {base base' : Nat} (l r : List (List Bar)) (w : World) (h : OwRR base w v l) (h' : OwRR base' w u r) (hl : l.length ≤ 100000) (hl' : r.length ≤ 100000) : Calls Tryz.prog 29 #[v, u] w (RV w (.bool (decide (l = r)))) := by
 obtain ⟨A, c, rfl⟩ := h.shape
 obtain ⟨A', c', rfl⟩ := h'.shape
 by_cases hlen : l.length = r.length
 ·have he2 : ((l.length : Int) != (r.length : Int)) = false := by simp [hlen]
  have HL := Lib.hid hlen
  clear hlen; go_enter Tryz.func29, Tryz.ntmps29
  go_wp2; go_loopw [5] (fun i wr => ∃ k : Nat, k ≤ l.length ∧ i = .int .i64 k ∧ Hid (decide (l = r) = decide (l.drop k = r.drop k)) ∧ Below w.heap.size w wr) (fun i _ => l.length - (intOf i).toNat)
  case atStart => exact ⟨0, Nat.zero_le _, rfl, by simp [Hid], by (repeat first|exact J0|assumption|(apply J1;assumption)|apply J2|apply J3|apply J4)⟩
  case round =>
   obtain ⟨k, hk, rfl, H, hbw⟩ := hrel; obtain ⟨wo, rfl⟩ : ∃ x, x = wr := ⟨_, rfl⟩
   by_cases hlt : k < l.length
   ·have hlt' : k < r.length := by have := HL.out; omega
    obtain ⟨b, off, A1, c1, rfl, hb, z0, hrow⟩ := (h.below hbw).get rfl hlt
    obtain ⟨b', off', A1', c1', rfl, hb', z0', hrow'⟩ := (h'.below hbw).get rfl hlt'
    have HD := Lib.hid (Z57 HL.out hlt)
    obtain ⟨g, hg⟩ : ∃ g, decide (l[k] = r[k]) = g := ⟨_, rfl⟩
    have cs := fun W z z' (p : SlB W z l[k]) (p' : SlB W z' r[k]) => Z58 l[k] r[k] W p p'
    rw [hg] at cs HD; have hq := hrow.rd Z20
    have hq' := hrow'.rd Z20
    clear hg hrow hrow'; cases g
    ·go_wp2
     refine Z0z [0, 1, 2, 3, 4, 5, 6, 7] [] [8, 9] (by kernel_rfl) (by kernel_rfl) (fun d _ _ _ _ h => by cases d <;> exact h) ?_
     simp only [List.map_cons, List.map_nil, List.getD_cons_zero, List.getD_cons_succ]; repeat (go_big_quiet_step (fail))
     refine wpQuiet_nil ?_; refine Z10 ?_; go_wp2_with fail; refine (cs _ _ _ (hq.below (by (repeat first|exact J0|assumption|(apply J1;assumption)|apply J2|apply J3|apply J4))) (hq'.below (by (repeat first|exact J0|assumption|(apply J1;assumption)|apply J2|apply J3|apply J4)))).mono ?_
     rintro e w5 ⟨rfl, hb5⟩; go_wp2; go_ret; exact ⟨Z0c (by rw [H.out, HD.out]; rfl), by (repeat first|exact J0|assumption|(apply J1;assumption)|apply J2|apply J3|apply J4)⟩
    ·have HK2 : Hid (decide (l = r) = decide (l.drop (k + 1) = r.drop (k + 1))) := by unfold Hid; rw [H.out, HD.out]; rfl
     clear H HD; go_wp2; refine Z0z [0, 1, 2, 3, 4, 5, 6, 7] [] [8, 9] (by kernel_rfl) (by kernel_rfl) (fun d _ _ _ _ h => by cases d <;> exact h) ?_
     simp only [List.map_cons, List.map_nil, List.getD_cons_zero, List.getD_cons_succ]; repeat (go_big_quiet_step (fail))
     refine wpQuiet_nil ?_; refine Z10 ?_; go_wp2_with fail; refine (cs _ _ _ (hq.below (by (repeat first|exact J0|assumption|(apply J1;assumption)|apply J2|apply J3|apply J4))) (hq'.below (by (repeat first|exact J0|assumption|(apply J1;assumption)|apply J2|apply J3|apply J4)))).mono ?_
     rintro e w5 ⟨rfl, hb5⟩; go_wp2; go_roundw; case rel => exact ⟨k + 1, by omega, by go_num, HK2, by (repeat first|exact J0|assumption|(apply J1;assumption)|apply J2|apply J3|apply J4)⟩
     case measure => simp [intOf]; omega
   ·have hkl : k = l.length := by omega
    go_wp2; go_ret; refine ⟨Z0c ?_, by (repeat first|exact J0|assumption|(apply J1;assumption)|apply J2|apply J3|apply J4)⟩
    rw [H.out, hkl, List.drop_length, HL.out, List.drop_length]; rfl
 ·have he2 : ((l.length : Int) != (r.length : Int)) = true := by simp; omega
  have hd : Hid (decide (l = r) = false) := by simp [Hid]; rintro rfl; exact hlen rfl
  go_enter Tryz.func29, Tryz.ntmps29
  go_wp2; go_ret; exact ⟨Z0c hd.out.symm, by (repeat first|exact J0|assumption|(apply J1;assumption)|apply J2|apply J3|apply J4)⟩
theorem Zuc {l : List Pan} (hP : PieL l) {x : Plc} (hx : InP l x) : netE (netL (pcP l x)) = 0 := Ze3 (hP.ok hx) (Zmt hP hx)
def RRB2 (w : World) (Ls : List (List Bar)) (b : Bool) (e : Ending) (w' : World) : Prop := ∃ v, e = .returned (.tuple #[v, .bool b]) ∧ OwRR w.heap.size w' v Ls ∧ Below w.heap.size w w'
theorem rnets5_any {v : Value} (l : List Pan) (plan : List Plc) (A : Option Addr) (c : Nat) (w : World) (h : SlP w v l) (hr : Rd plc 3 w A plan) (hP : PieL l) (hi : InL l plan) (hn : Zlh plan 100000) (hp16 : plan.length ≤ 16) :
  Calls Tryz.prog 28 #[v, .slice A plan.length c] w (RRB2 w (plan.map (pnet l)) (rnI l plan)) := by
 have HPC := Lib.hid (fun x (hx : InP l x) W (hb : Below w.heap.size w W) => Zu4 l x W (h.below hb) hP hx)
 have HCN := Lib.hid (fun x (hx : InP l x) (u1 u2 : Value) W (h1 : SlE W u1 (pcP l x).2.2.1) (h2 : SlE W u2 (pcP l x).2.2.2) => Zub (pcP l x) W h1 h2 (hP.ok hx))
 have HCS := Lib.hid (fun x (hx : InP l x) (hnx : -100000 ≤ x.2.2 ∧ x.2.2 ≤ 100000) (u : Value) W (h1 : SlB W u (netL (pcP l x))) => show Calls Tryz.prog 85 #[u, .agg #[.int .i64 x.2.2, .int .i64 0]] W (RBB W (pnet l x) (Z5r (pnet l x))) from Z5t (netL (pcP l x)) x.2.2 0 W h1 (Z4v (Zuc hP hx)).ok (by have := (Z4v (Zuc hP hx)).len; omega) (by omega) (by omega))
 have HI := Lib.hid hi
 have HN := Lib.hid hn
 have HT : Hid (∀ (k : Nat) (hk : k < plan.length), (plan.take (k + 1)).map (pnet l) = (plan.take k).map (pnet l) ++ [pnet l plan[k]] ∧ rnI l (plan.take (k + 1)) = (rnI l (plan.take k) && Z5r (pnet l plan[k]))) := fun k hk => by
  unfold rnI; rw [List.take_succ_eq_append_getElem hk, List.map_append, List.all_append]; exact ⟨rfl, by simp⟩
 have H0 : Hid (rnI l (plan.take 0) = true) := rfl
 have HF : Hid (rnI l (plan.take plan.length) = rnI l plan ∧ (plan.take plan.length).map (pnet l) = plan.map (pnet l)) := by unfold Hid; rw [List.take_length]; exact ⟨rfl, rfl⟩
 obtain ⟨A1, c1, rfl⟩ := Zty h
 clear hP hi hn h
 go_enter Tryz.func28, Tryz.ntmps28
 go_wp2
 go_loopw [6, 7, 8] (fun o a i wr => ∃ k : Nat, k ≤ plan.length ∧ i = .int .i64 k ∧ a = .bool (rnI l (plan.take k)) ∧ OwRR w.heap.size wr o ((plan.take k).map (pnet l)) ∧ Below w.heap.size w wr) (fun _ _ i _ => plan.length - (intOf i).toNat)
 case atStart => exact ⟨0, Nat.zero_le _, rfl, by rw [H0.out], OwRR.nil_, Z03⟩
 case round =>
  obtain ⟨k, hk, rfl, rfl, hO, hbw⟩ := hrel; obtain ⟨wo, rfl⟩ : ∃ x, x = wr := ⟨_, rfl⟩
  by_cases hlt : k < plan.length
  ·obtain ⟨b, off, rfl, hb, e0, e1, e2⟩ := (hr.below hbw).plc hlt
   have hx := HI.out _ (List.getElem_mem hlt)
   have hnx := HN.out _ (List.getElem_mem hlt)
   obtain ⟨ht1, ht2⟩ := HT.out k hlt
   obtain ⟨x, hxe⟩ : ∃ z, plan[k] = z := ⟨_, rfl⟩
   rw [hxe] at e0 e1 e2 hx hnx ht1 ht2; have cP := HPC.out x hx
   have cN := HCN.out x hx
   have cS := HCS.out x hx hnx
   obtain ⟨S, hS⟩ : ∃ z, pnet l x = z := ⟨_, rfl⟩
   rw [hS] at cS ht1 ht2; obtain ⟨p, hp⟩ : ∃ p, pcP l x = p := ⟨_, rfl⟩
   rw [hp] at cP cN cS; obtain ⟨N, hN⟩ : ∃ z, netL p = z := ⟨_, rfl⟩
   rw [hN] at cN cS; obtain ⟨q, hq⟩ : ∃ z, Z5r S = z := ⟨_, rfl⟩
   rw [hq] at cS ht2; obtain ⟨r, hrr⟩ : ∃ z, rnI l (plan.take k) = z := ⟨_, rfl⟩
   rw [hrr] at ht2 ⊢; obtain ⟨Ls, hLs⟩ : ∃ z, (plan.take k).map (pnet l) = z := ⟨_, rfl⟩
   have hLl : Ls.length ≤ 16 := by rw [← hLs, List.length_map, List.length_take]; omega
   rw [hLs] at ht1 hO; have HT1 := Lib.hid ht1
   have HT2 := Lib.hid ht2
   obtain ⟨x0, x1, x2⟩ := x; simp only at cP cS e0 e1 e2
   unfold RPc at cP; unfold sV at cP cN; clear hxe hx hnx ht1 ht2 hS hp hN hq hrr hLs; cases r
   ·go_upto_region 6 with fail
    refine Z0z [0, 1, 2, 3, 4, 7, 8, 9, 10, 11, 12] [(5, false), (6, false), (13, false), (14, false), (15, true), (16, true), (17, false)] [18] (by kernel_rfl) (by kernel_rfl) (fun d _ _ _ _ h => by cases d <;> exact h) ?_
    simp only [List.map_cons, List.map_nil, List.getD_cons_zero, List.getD_cons_succ]; repeat (go_big_quiet_step (fail))
    refine wpQuiet_nil ?_; refine Z11 rfl (fun K hK => ?_); go_simp; refine (cP _ (by (repeat first|exact J0|assumption|(apply J1;assumption)|apply J2|apply J3|apply J4))).mono ?_
    rintro e w3 ⟨xL, xR, rfl, hxL, hxR, hb3⟩; refine hK _ _ (by (repeat first|exact J0|assumption|(apply J1;assumption)|apply J2|apply J3|apply J4)) ?_
    clear hK K; refine Z11 rfl (fun K hK => ?_); go_simp; refine (cN _ _ _ hxL hxR).mono ?_
    rintro e w4 ⟨v4, rfl, hO4, hb4⟩; refine hK _ _ (by (repeat first|exact J0|assumption|(apply J1;assumption)|apply J2|apply J3|apply J4)) ?_
    clear hK K; refine Z11 rfl (fun K hK => ?_); go_simp; refine (cS _ _ (hO4.rd Z20)).mono ?_
    rintro e w5 ⟨v5, rfl, hO5, hb5⟩; refine hK _ _ (by (repeat first|exact J0|assumption|(apply J1;assumption)|apply J2|apply J3|apply J4)) ?_
    clear hK K; obtain ⟨A5, c5, rfl⟩ := hO5.shape; refine Z11 rfl (fun K hK => ?_); go_simp; refine hK _ _ (by (repeat first|exact J0|assumption|(apply J1;assumption)|apply J2|apply J3|apply J4)) ?_
    clear hK K; iterate 2 (refine Z14 rfl ?_; intro K hK; go_big_quiet_op; go_big_quiet_on)
    refine Z11 rfl (fun K hK => ?_); go_simp; refine hK _ _ (by (repeat first|exact J0|assumption|(apply J1;assumption)|apply J2|apply J3|apply J4)) ?_
    clear hK K; refine Z10 ?_; have hb35 : Below wo.heap.size wo w5 := by (repeat first|exact J0|assumption|(apply J1;assumption)|apply J2|apply J3|apply J4)
    have hz4 : w.heap.size ≤ w4.heap.size := (Z08 (show Below wo.heap.size wo w4 by (repeat first|exact J0|assumption|(apply J1;assumption)|apply J2|apply J3|apply J4)) hbw).size
    have hOe := hO.below hb35
    have hbe := Z08 hb35 hbw
    have hS5 := hO5.base_mono hz4
    obtain ⟨ts, hT, hR⟩ := hOe; have hTl : ts.length ≤ 1000000 := by rw [hR.len]; omega
    obtain ⟨At, ct, rfl⟩ := hT.shape; have hal := Z04 (Z03 (w := w5)) (.cells #[.slice A5 S.length c5] 65)
    have hTa := hT.below hal
    have hRa := hR.map_ fun v L h => h.below hal
    have hSa := hS5.below hal
    have hz5 : w.heap.size ≤ w5.heap.size := hbe.size
    clear hO5 hO4 hO hb3 hb4 hb5 hb35 hxL hxR; go_wp2_with (at_builtin; refine Zd9 hT rfl _ _ rfl rfl rfl rfl hTl hz5 ?_; intro v9 w9 hT9 hg9)
    have hR9 : Zd8 w.heap.size w9 (ts ++ [(A5, S.length, c5)]) (Ls ++ [S]) := (hRa.map_ fun v L h => h.kept hg9 (h.ne_own hTa (by decide))).snoc (hSa.kept hg9 (hSa.ne_own hTa (by decide)))
    have hb9 : Below w.heap.size w w9 := Z09 hg9 (Z08 hal hbe) (fun j e => (hTa.lt j e).1)
    go_wp2; go_roundw; case rel => exact ⟨k + 1, by omega, by go_num, by rw [HT2.out]; rfl, ⟨_, hT9, by rw [HT1.out]; exact hR9⟩, hb9⟩
    case measure => simp [intOf]; omega
   ·go_upto_region 6 with fail
    refine Z0z [0, 1, 2, 3, 4, 7, 8, 9, 10, 11, 12] [(5, false), (6, false), (13, false), (14, false), (15, true), (16, true), (17, false)] [18] (by kernel_rfl) (by kernel_rfl) (fun d _ _ _ _ h => by cases d <;> exact h) ?_
    simp only [List.map_cons, List.map_nil, List.getD_cons_zero, List.getD_cons_succ]; repeat (go_big_quiet_step (fail))
    refine wpQuiet_nil ?_; refine Z11 rfl (fun K hK => ?_); go_simp; refine (cP _ (by (repeat first|exact J0|assumption|(apply J1;assumption)|apply J2|apply J3|apply J4))).mono ?_
    rintro e w3 ⟨xL, xR, rfl, hxL, hxR, hb3⟩; refine hK _ _ (by (repeat first|exact J0|assumption|(apply J1;assumption)|apply J2|apply J3|apply J4)) ?_
    clear hK K; refine Z11 rfl (fun K hK => ?_); go_simp; refine (cN _ _ _ hxL hxR).mono ?_
    rintro e w4 ⟨v4, rfl, hO4, hb4⟩; refine hK _ _ (by (repeat first|exact J0|assumption|(apply J1;assumption)|apply J2|apply J3|apply J4)) ?_
    clear hK K; refine Z11 rfl (fun K hK => ?_); go_simp; refine (cS _ _ (hO4.rd Z20)).mono ?_
    rintro e w5 ⟨v5, rfl, hO5, hb5⟩; refine hK _ _ (by (repeat first|exact J0|assumption|(apply J1;assumption)|apply J2|apply J3|apply J4)) ?_
    clear hK K; obtain ⟨A5, c5, rfl⟩ := hO5.shape; refine Z11 rfl (fun K hK => ?_); go_simp; refine hK _ _ (by (repeat first|exact J0|assumption|(apply J1;assumption)|apply J2|apply J3|apply J4)) ?_
    clear hK K; iterate 2 (refine Z14 rfl ?_; intro K hK; go_big_quiet_op; go_big_quiet_on)
    refine Z11 rfl (fun K hK => ?_); go_simp; refine hK _ _ (by (repeat first|exact J0|assumption|(apply J1;assumption)|apply J2|apply J3|apply J4)) ?_
    clear hK K; refine Z10 ?_; have hb35 : Below wo.heap.size wo w5 := by (repeat first|exact J0|assumption|(apply J1;assumption)|apply J2|apply J3|apply J4)
    have hz4 : w.heap.size ≤ w4.heap.size := (Z08 (show Below wo.heap.size wo w4 by (repeat first|exact J0|assumption|(apply J1;assumption)|apply J2|apply J3|apply J4)) hbw).size
    have hOe := hO.below hb35
    have hbe := Z08 hb35 hbw
    have hS5 := hO5.base_mono hz4
    obtain ⟨ts, hT, hR⟩ := hOe; have hTl : ts.length ≤ 1000000 := by rw [hR.len]; omega
    obtain ⟨At, ct, rfl⟩ := hT.shape; have hal := Z04 (Z03 (w := w5)) (.cells #[.slice A5 S.length c5] 65)
    have hTa := hT.below hal
    have hRa := hR.map_ fun v L h => h.below hal
    have hSa := hS5.below hal
    have hz5 : w.heap.size ≤ w5.heap.size := hbe.size
    clear hO5 hO4 hO hb3 hb4 hb5 hb35 hxL hxR; go_wp2_with (at_builtin; refine Zd9 hT rfl _ _ rfl rfl rfl rfl hTl hz5 ?_; intro v9 w9 hT9 hg9)
    have hR9 : Zd8 w.heap.size w9 (ts ++ [(A5, S.length, c5)]) (Ls ++ [S]) := (hRa.map_ fun v L h => h.kept hg9 (h.ne_own hTa (by decide))).snoc (hSa.kept hg9 (hSa.ne_own hTa (by decide)))
    have hb9 : Below w.heap.size w w9 := Z09 hg9 (Z08 hal hbe) (fun j e => (hTa.lt j e).1)
    go_wp2; go_roundw; case rel => exact ⟨k + 1, by omega, by go_num, by rw [HT2.out]; rfl, ⟨_, hT9, by rw [HT1.out]; exact hR9⟩, hb9⟩
    case measure => simp [intOf]; omega
  ·obtain rfl : k = plan.length := by omega
   obtain ⟨hf1, hf2⟩ := HF.out; rw [hf1]; rw [hf2] at hO; obtain ⟨ts, hT, hR⟩ := hO; obtain ⟨At, ct, rfl⟩ := hT.shape; go_wp2; refine bodyPost_ret (v := .tuple #[.slice At ts.length ct, .bool (rnI l plan)]) (by simp [results, Tryz.results28, go_sem]) rfl ?_
   exact ⟨_, rfl, ⟨_, hT, hR⟩, hbw⟩
end Go.Proofs.YtpcgeihemkhkjaaGreatDoor
