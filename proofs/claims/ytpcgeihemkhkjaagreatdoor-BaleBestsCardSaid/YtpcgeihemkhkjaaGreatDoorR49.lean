/- The reference: orders, Best, Bound, walked. Conditions: the pieces have no error. -/
import Derived.Test.YtpcgeihemkhkjaaGreatDoorR48
import Derived.Test.YtpcgeihemkhkjaaGreatDoorR39
import Derived.Test.YtpcgeihemkhkjaaGreatDoorR37
import Derived.Test.YtpcgeihemkhkjaaGreatDoorR26
import Derived.Test.YtpcgeihemkhkjaaGreatDoorR40
namespace Go.Proofs.YtpcgeihemkhkjaaGreatDoor
open Go.RowKit Go.ChangeMaps
set_option maxHeartbeats 4000000
set_option maxRecDepth 100000
attribute [local go_sem] Oper.semAt_some
def Ztu (base : Nat) (w : World) : List SlV → List (List Plc) → Prop
 | [], [] => True
 | t :: ts, L :: Ls => Own plc 3 base 101 w (slV t) L ∧ Ztu base w ts Ls
 | _, _ => False
theorem Ztu.len {base : Nat} {w : World} : ∀ {ts : List SlV} {Ls : List (List Plc)}, Ztu base w ts Ls → ts.length = Ls.length
 | [], [], _ => rfl
 | _ :: _, _ :: _, h => by simp [Ztu.len h.2]
 | [], _ :: _, h => h.elim
 | _ :: _, [], h => h.elim
theorem Ztu.map_ {base base' : Nat} {w w' : World} (hm : ∀ v L, Own plc 3 base 101 w v L → Own plc 3 base' 101 w' v L) : ∀ {ts : List SlV} {Ls : List (List Plc)}, Ztu base w ts Ls → Ztu base' w' ts Ls
 | [], [], _ => trivial
 | _ :: _, _ :: _, h => ⟨hm _ _ h.1, h.2.map_ hm⟩
 | [], _ :: _, h => h.elim
 | _ :: _, [], h => h.elim
theorem Ztu.get {base : Nat} {w : World} : ∀ {ts : List SlV} {Ls : List (List Plc)} {i : Nat}, Ztu base w ts Ls → (hi : i < ts.length) → (hj : i < Ls.length) → Own plc 3 base 101 w (slV ts[i]) Ls[i]
 | _ :: _, _ :: _, 0, h, _, _ => h.1
 | _ :: _, _ :: _, i + 1, h, hi, hj => by
  simp only [List.getElem_cons_succ]; exact h.2.get _ _
 | [], _, _, _, hi, _ => by simp at hi
 | _ :: _, [], _, h, _, _ => h.elim
theorem Ztu.app {base : Nat} {w : World} : ∀ {ts us : List SlV} {Ls Ms : List (List Plc)}, Ztu base w ts Ls → Ztu base w us Ms → Ztu base w (ts ++ us) (Ls ++ Ms)
 | [], _, [], _, _, h => h
 | _ :: _, _, _ :: _, _, h, h' => ⟨h.1, h.2.app h'⟩
 | [], _, _ :: _, _, h, _ => h.elim
 | _ :: _, _, [], _, h, _ => h.elim
def ordQ (n k : Nat) (bg : List Plc) (m : Nat) : List (List Plc) := (List.range m).flatMap fun (m : Nat) => if bg.any (fun x => decide (x.1 = (wayI m).1)) then [] else ordG n k (bg ++ [wayI m])
theorem Ztv (n k : Nat) (bg : List Plc) (m : Nat) : ordQ n k bg (m + 1) = ordQ n k bg m ++ if bg.any (fun x => decide (x.1 = (wayI m).1)) then [] else ordG n k (bg ++ [wayI m]) := by
 unfold ordQ
 rw [List.range_succ, List.flatMap_append]
 simp
theorem Ztw (n k : Nat) (bg : List Plc) : ordQ n k bg (2 * n) = ordG n (k + 1) bg := (Zkk n k bg).symm
theorem Ztx {l : List Plc} {j : Nat} (hj : j < l.length) (a : Int) : ((l.take (j + 1)).any fun x => decide (x.1 = a)) = (((l.take j).any fun x => decide (x.1 = a)) || decide (l[j].1 = a)) := by
 rw [List.take_succ_eq_append_getElem hj, List.any_append]
 simp
def Zty (l : List Pan) (k : Nat) : Int := (l.take k).foldl (fun m p => max m (widP p)) 0
theorem Ztz {l : List Pan} {k : Nat} (hk : k < l.length) : Zty l (k + 1) = max (Zty l k) (widP l[k]) := by
 unfold Zty
 rw [List.take_succ_eq_append_getElem hk, List.foldl_append]
 rfl
theorem Zu0 (l : List Pan) : Zty l l.length = Zmx l := by unfold Zty Zmx; rw [List.take_length]
theorem Zu1 (l : List Pan) : brF l l.length = Zmw l := by unfold brF Zmw; rw [List.take_length]
theorem Zu2 {l : List Pan} (h : PieL l) (k : Nat) : 0 ≤ Zty l k ∧ Zty l k ≤ 4097 := by
 have key : ∀ (r : List Pan) (m : Int), 0 ≤ m ∧ m ≤ 4097 → (∀ p ∈ r, p ∈ l) → 0 ≤ r.foldl (fun m p => max m (widP p)) m ∧ r.foldl (fun m p => max m (widP p)) m ≤ 4097 := by
  intro r; induction r with
  | nil => intro m hm _; exact hm
  | cons p t ih =>
   intro m hm hr; have := Zq5 (Zl4 (h p (hr p (List.mem_cons_self ..))).er)
   exact ih _ (by show 0 ≤ max m (widP p) ∧ max m (widP p) ≤ 4097; omega) fun q hq => hr q (List.mem_cons_of_mem _ hq)
 exact key _ 0 (by omega) fun p hp => List.mem_of_mem_take hp
theorem Zu3 {n m : Nat} (ih : ∀ bg, (ordG n m bg).length ≤ (2 * n) ^ m) (bg : List Plc) : ∀ k, (ordQ n m bg k).length ≤ k * (2 * n) ^ m
 | 0 => by simp [ordQ]
 | k + 1 => by
  have h1 := Zu3 ih bg k
  have h2 := ih (bg ++ [wayI k])
  rw [Ztv, List.length_append, Nat.succ_mul]; split
  ·simp only [List.length_nil]; omega
  ·omega
theorem Zu4 (n : Nat) : ∀ (m : Nat) (bg : List Plc), (ordG n m bg).length ≤ (2 * n) ^ m
 | 0, _ => by simp [ordG]
 | m + 1, bg => by
  rw [← Ztw, Nat.pow_succ, Nat.mul_comm ((2 * n) ^ m)]
  exact Zu3 (Zu4 n m) bg (2 * n)
theorem Zu5 {n m : Nat} (hn : n ≤ 5) (hm : m ≤ 5) : (2 * n) ^ m ≤ 100000 := by
 have h1 : (2 * n) ^ m ≤ 10 ^ m := Nat.pow_le_pow_left (by omega) m
 have h2 : (10 : Nat) ^ m ≤ 10 ^ 5 := Nat.pow_le_pow_right (by omega) hm
 have h3 : (10 : Nat) ^ 5 = 100000 := by decide
 omega
theorem Zu6 {n m : Nat} (hn : n ≤ 5) (hm : m ≤ 5) (bg : List Plc) : (ordG n m bg).length ≤ 100000 := Nat.le_trans (Zu4 n m bg) (Zu5 hn hm)
theorem Zu7 {n m : Nat} (hn : n ≤ 5) (hm : m + 1 ≤ 5) (bg : List Plc) {k : Nat} (hk : k ≤ 2 * n) : (ordQ n m bg k).length ≤ 100000 := by
 have h1 := Zu3 (Zu4 n m) bg k
 have h2 : k * (2 * n) ^ m ≤ (2 * n) * (2 * n) ^ m := Nat.mul_le_mul_right _ hk
 have h3 := Zu5 hn hm
 rw [Nat.pow_succ, Nat.mul_comm ((2 * n) ^ m)] at h3
 omega
theorem Zu8 : Elem Tryz.prog 162 45 1 24 := ⟨by kernel_rfl, by kernel_rfl, by decide⟩
def RRQ (base : Nat) (w : World) (Ls : List (List Plc)) (e : Ending) (w' : World) : Prop := ∃ v ts, e = .returned v ∧ Own rc 1 w.heap.size 45 w' v ts ∧ Ztu base w' ts Ls ∧ Below w.heap.size w w'
theorem Zu9 {W : World} {g : Nat} {T : TypeId} {a z : Int} {t : Bool} (h : Blk W g T #[.int .i64 a, .bool t, .int .i64 z]) : Sl plc 3 W (.slice (some ⟨g, 0, none⟩) 1 1) [(a, t, z)] := by
 refine ⟨_, 1, rfl, by simp, by simp [maxLen], fun i b hb => ?_⟩
 match i, hb with
 | 0, hb =>
  obtain rfl : (a, t, z) = b := by simpa using hb
  refine ⟨_, 0, rfl, h.lt, fun j u hj => ?_⟩
  rw [h.cell]; simpa [plc] using hj
theorem Zua {w : World} {base : Nat} {e : TypeId} {A : Option Addr} {n c : Nat} {l : List Plc} (h : Own plc 3 base e w (.slice A n c) l) : Rd plc 3 w A l ∧ l.length ≤ c ∧ n = l.length := by
 obtain ⟨A', c', h1, h2, _, r⟩ := h.rd Zix
 cases h1
 exact ⟨r, h2, rfl⟩
theorem Zub (n : Nat) (hn : n ≤ 5) : ∀ (m : Nat) (bg : List Plc) (A : Option Addr) (c : Nat) (base : Nat) (w : World), bg.length + m = n → Own plc 3 base 101 w (.slice A bg.length c) bg → base ≤ w.heap.size →
  Calls Tryz.prog 96 #[.int .i64 n, .slice A bg.length c] w (RRQ base w (ordG n m bg))
 | 0, bg, A, c, base, w, hl, hO, hb => by
  have t1 : ((bg.length : Int) == (n : Int)) = true := by simp; omega
  have HE : Hid (ordG n 0 bg = [bg]) := rfl
  have hR := Zr0 (enc := rc) (sz := 1) w (Nat.le_refl _) 45 [((A, bg.length, c) : SlV)] Zd0 (by simp) #[.slice A bg.length c] rfl 1 rfl
  clear hl; go_enter Tryz.func96, Tryz.ntmps96
  go_wp2; go_ret; exact ⟨_, _, rfl, hR, by rw [HE.out]; exact ⟨hO.below (Z03 Z02 _), trivial⟩, Z03 Z02 _⟩
 | m + 1, bg, A, c, base, w, hl, hO, hb => by
  have cR := fun (bg' : List Plc) (hl' : bg'.length + m = n) (A' : Option Addr) (c' base' : Nat) W => Zub n hn m bg' A' c' base' W hl'
  have t1 : ((bg.length : Int) == (n : Int)) = false := beq_false_of_ne (by omega)
  have HE : Hid (ordG n (m + 1) bg = ordQ n m bg (2 * n)) := (Ztw n m bg).symm
  have HS : Hid (∀ k, ordQ n m bg (k + 1) = ordQ n m bg k ++ if bg.any (fun x => decide (x.1 = (wayI k).1)) then [] else ordG n m (bg ++ [wayI k])) := fun k => Ztv n m bg k
  have HQ : Hid (∀ k, k ≤ 2 * n → (ordQ n m bg k).length ≤ 100000) := fun k hk => Zu7 hn (by omega) bg hk
  have HG : Hid (∀ bg', (ordG n m bg').length ≤ 100000) := fun bg' => Zu6 hn (by omega) bg'
  have HAT : Hid (∀ (j : Nat) (hj : j < bg.length) (a : Int), ((bg.take (j + 1)).any fun x => decide (x.1 = a)) = (((bg.take j).any fun x => decide (x.1 = a)) || decide (bg[j].1 = a))) := fun j hj a => Ztx hj a
  have HA0 : Hid (∀ a : Int, ((bg.take 0).any fun x => decide (x.1 = a)) = false) := fun a => rfl
  have HAL : Hid (∀ a : Int, ((bg.take bg.length).any fun x => decide (x.1 = a)) = bg.any fun x => decide (x.1 = a)) := fun a => by rw [List.take_length]
  have HL := Lib.hid hl
  have hbl : bg.length ≤ 4 := by omega
  obtain ⟨L, hLe⟩ : ∃ z, bg.length = z := ⟨_, rfl⟩
  rw [hLe] at t1 HAL HL hbl; have HLe := Lib.hid hLe
  have hO' := hO
  rw [hLe] at hO' ⊢; clear hl hLe hO; go_enter Tryz.func96, Tryz.ntmps96
  go_wp2; go_loopw [5, 6] (fun o i wr => ∃ (k : Nat) (ts : List SlV), k ≤ 2 * n ∧ i = .int .i64 k ∧ Own rc 1 w.heap.size 45 wr o ts ∧ Ztu base wr ts (ordQ n m bg k) ∧ Below w.heap.size w wr) (fun _ i _ => 2 * n - (intOf i).toNat)
  case atStart => exact ⟨0, [], Nat.zero_le _, rfl, Own.nil_, trivial, Z02⟩
  case round =>
   obtain ⟨k, ts, hk, rfl, hT, hRw, hbw⟩ := hrel; obtain ⟨wo, rfl⟩ : ∃ x, x = wr := ⟨_, rfl⟩
   by_cases hlt : k < 2 * n
   ·have u1 : ((k : Int) < 2 * (n : Int)) = True := eq_true (by omega)
    have hst := HS.out k
    have HW : Hid (wayI k = (((k / 2 : Nat) : Int), decide (k % 2 = 1), 0)) := rfl
    rw [HW.out] at hst; obtain ⟨p, hp⟩ : ∃ z : Nat, k / 2 = z := ⟨_, rfl⟩
    obtain ⟨d, hd⟩ : ∃ z, decide (k % 2 = 1) = z := ⟨_, rfl⟩
    have hq1 : (k : Int).tdiv 2 = (p : Int) := by rw [← hp, Int.tdiv_eq_ediv_of_nonneg (by omega)]; omega
    have hpb : p ≤ 5 := by omega
    have hq2 : ((k : Int) % 2 == 1) = d := by
     rw [← hd]; by_cases h8 : k % 2 = 1
     ·rw [decide_eq_true h8, show (k : Int) % 2 = 1 by omega]; rfl
     ·rw [decide_eq_false h8, show (k : Int) % 2 = 0 by omega]; rfl
    rw [hp, hd] at hst; replace hst : ordQ n m bg (k + 1) = ordQ n m bg k ++ if (bg.any fun x => decide (x.1 = (p : Int))) = true then [] else ordG n m (bg ++ [((p : Int), d, 0)]) := hst
    have HST := Lib.hid hst
    have hts := HQ.out k hk
    have htl : ts.length ≤ 100000 := by rw [hRw.len]; exact hts
    clear hst hp hd hts; obtain ⟨Ao, co, rfl⟩ := hT.shape; have hX := Blk.new wo 101 #[.int .i64 (p : Int), .bool d, .int .i64 0]
    go_upto_region 8 with fail; obtain ⟨w2, hw2⟩ : ∃ X, wo.alloc (.cells #[.int .i64 (p : Int), .bool d, .int .i64 0] 101) = X := ⟨_, rfl⟩
    have hbo2 : Below wo.heap.size wo w2 := by rw [← hw2]; exact Z03 Z02 _
    rw [hw2] at hX ⊢; obtain ⟨G, hG⟩ : ∃ z, wo.heap.size = z := ⟨_, rfl⟩
    rw [hG] at hX ⊢; clear hw2; have hG2 : G < w2.heap.size := hX.lt
    have hOb := hO'.below (Z07 hbo2 hbw)
    obtain ⟨rb, hlc, -⟩ := Zua hOb
    go_wp2_with fail; go_loopw [8, 9] (fun s j wr => ∃ i : Nat, i ≤ L ∧ j = .int .i64 i ∧ s = .bool ((bg.take i).any fun x => decide (x.1 = (p : Int))) ∧ Below w2.heap.size w2 wr) (fun _ j _ => L - (intOf j).toNat)
    case atStart => exact ⟨0, Nat.zero_le _, rfl, by rw [HA0.out], Z02⟩
    case round =>
     obtain ⟨j, hj, rfl, rfl, hbj⟩ := hrel; obtain ⟨wi, rfl⟩ : ∃ x, x = wr := ⟨_, rfl⟩
     have fX := (hX.below hbj).facts
     by_cases hjl : j < L
     ·have hjb : j < bg.length := by rw [HLe.out]; exact hjl
      obtain ⟨b, off, rfl, hb1, e0, e1, e2⟩ := (rb.below hbj).plc hjb
      have hat := HAT.out j hjb (p : Int)
      obtain ⟨y, hy⟩ : ∃ z, bg[j].1 = z := ⟨_, rfl⟩
      rw [hy] at e0 hat; obtain ⟨q, hq⟩ : ∃ z, ((bg.take j).any fun x => decide (x.1 = (p : Int))) = z := ⟨_, rfl⟩
      rw [hq] at hat ⊢; have hE : (y == (p : Int)) = decide (y = (p : Int)) := by by_cases h : y = (p : Int) <;> simp [h]
      obtain ⟨r, hr⟩ : ∃ z, decide (y = (p : Int)) = z := ⟨_, rfl⟩
      rw [hr] at hat hE; have HATJ := Lib.hid hat
      clear hy hq hr hat e1 e2; cases q
      ·go_upto_region 12 with fail
       refine Z0y [0, 1, 2, 3, 4, 5, 6, 7, 8, 9, 10, 11] [] [] (by kernel_rfl) (by kernel_rfl) (fun d _ _ _ _ h => by cases d <;> exact h) ?_
       simp only [List.map_cons, List.map_nil, List.getD_cons_zero, List.getD_cons_succ]; repeat (go_big_quiet_step (fail))
       refine wpQuiet_nil ?_; refine Z0z ?_; go_wp2; go_roundw; case rel => exact ⟨j + 1, by omega, by go_num, by rw [HATJ.out]; rfl, by (repeat first|exact J0|assumption|(apply J1;assumption)|apply J2|apply J3|apply J4)⟩
       case measure => simp [intOf]; omega
      ·go_upto_region 12 with fail
       refine Z0y [0, 1, 2, 3, 4, 5, 6, 7, 8, 9, 10, 11] [] [] (by kernel_rfl) (by kernel_rfl) (fun d _ _ _ _ h => by cases d <;> exact h) ?_
       simp only [List.map_cons, List.map_nil, List.getD_cons_zero, List.getD_cons_succ]; repeat (go_big_quiet_step (fail))
       refine wpQuiet_nil ?_; refine Z0z ?_; go_wp2; go_roundw; case rel => exact ⟨j + 1, by omega, by go_num, by rw [HATJ.out]; rfl, by (repeat first|exact J0|assumption|(apply J1;assumption)|apply J2|apply J3|apply J4)⟩
       case measure => simp [intOf]; omega
     ·obtain rfl : L = j := by omega
      rw [HAL.out]; have hw3 := Z07 hbj hbo2
      obtain ⟨w3, rfl⟩ : ∃ x, x = wi := ⟨_, rfl⟩
      have hbw3 : Below w.heap.size w w3 := Z07 hw3 hbw
      have hT3 := hT.below hw3
      have hRw3 := hRw.map_ fun v L h => h.below hw3
      obtain ⟨q, hq⟩ : ∃ z, (bg.any fun x => decide (x.1 = (p : Int))) = z := ⟨_, rfl⟩
      rw [hq] at HST ⊢; clear hq; cases q
      ·have hcR := cR (bg ++ [((p : Int), d, 0)]) (by rw [List.length_append, HLe.out]; simp; have := HL.out; omega)
       have sl3 : Sl plc 3 w3 (.slice A L c) bg := (hO'.below hbw3).rd Zix
       have hbgl : bg.length ≤ 4 := by rw [HLe.out]; exact hbl
       have hl1 : (bg ++ [((p : Int), d, (0 : Int))]).length = bg.length + 1 := by simp
       rw [hl1] at hcR; clear HA0 HAL HAT HLe HL hT hRw; go_upto_region 14 with fail; refine Z5c [0, 1, 3, 5] (.alt (.br 2 (.alt (.br 4 (.alt (.br 6 (.alt (.br 7 (.alt (.br 8 (.fin) (.stop))) (.stop))) (.stop))) (.br 6 (.alt (.br 4 (.alt (.br 7 (.alt (.br 8 (.fin) (.stop))) (.stop))) (.stop))) (.stop)))) (.br 6 (.alt (.br 2 (.alt (.br 4 (.alt (.br 7 (.alt (.br 8 (.fin) (.stop))) (.stop))) (.stop))) (.stop))) (.stop)))) [9, 10] (by kernel_rfl) (by kernel_rfl) (fun d _ _ _ _ h => by cases d <;> exact h) ?_
       simp only [List.map_cons, List.map_nil, List.getD_cons_zero, List.getD_cons_succ]; repeat (go_big_quiet_step (fail))
       refine wpQuiet_nil ?_; refine Z5e (Z5g rfl rfl ?_ (Z5g rfl rfl ?_ Z5f))
       have own1 := (Own.empty plc 3 (w3.drew) 101).base_mono (show w3.heap.size ≤ (w3.drew).heap.size by simp <;> omega)
       intro K hK; go_simp; refine hK _ _ (by (repeat first|exact J0|assumption|(apply J1;assumption)|apply J2|apply J3|apply J4)) ?_
       clear hK K; refine Z5e (Z5g rfl rfl ?_ (Z5g rfl rfl ?_ Z5f))
       intro K hK; simp only [Array.getD_eq_getD_getElem?, List.getElem?_toArray, List.getElem?_cons_succ, List.getElem?_cons_zero, Option.getD_some]; refine Z5j (l := ([] : List Plc)) (r := bg) Zr6 Zix Ziz _ _ rfl w3.heap.size (.slice (some ⟨w3.heap.size, 0, none⟩) 0 0) _ rfl rfl own1 (sl3.below (by (repeat first|exact J0|assumption|(apply J1;assumption)|apply J2|apply J3|apply J4))) (by simp [maxLen]; omega) (by simp; omega) (Below.size (by (repeat first|exact J0|assumption|(apply J1;assumption)|apply J2|apply J3|apply J4))) ?_
       intro v6 w6 own6 hg6; have hb6 := Z3w own1 hg6 (by (repeat first|exact J0|assumption|(apply J1;assumption)|apply J2|apply J3|apply J4))
       refine hK _ _ hb6 ?_
       clear hK K; rw [List.nil_append] at own6; refine Z5e (Z5g rfl rfl ?_ Z5f); have one1 := Blk.new (w6) 101 #[.int .i64 (p : Int), .bool d, .int .i64 0]
       intro K hK; go_simp; refine hK _ _ (by (repeat first|exact J0|assumption|(apply J1;assumption)|apply J2|apply J3|apply J4)) ?_
       clear hK K; have own3 := own6.alloc (.cells #[.int .i64 (p : Int), .bool d, .int .i64 0] 101)
       have ow := own3
       have on := one1
       rotate_left
       have one1 := Blk.new ((w3.drew).alloc (.cells #[] 101)) 101 #[.int .i64 (p : Int), .bool d, .int .i64 0]
       simp only [World.size_alloc] at one1; intro K hK; go_simp; refine hK _ _ (by (repeat first|exact J0|assumption|(apply J1;assumption)|apply J2|apply J3|apply J4)) ?_
       clear hK K; have own3 := own1.alloc (.cells #[.int .i64 (p : Int), .bool d, .int .i64 0] 101)
       refine Z5e (Z5g rfl rfl ?_ Z5f); intro K hK; simp only [Array.getD_eq_getD_getElem?, List.getElem?_toArray, List.getElem?_cons_succ, List.getElem?_cons_zero, Option.getD_some]; refine Z5j (l := ([] : List Plc)) (r := bg) Zr6 Zix Ziz _ _ rfl w3.heap.size (.slice (some ⟨w3.heap.size, 0, none⟩) 0 0) _ rfl rfl own3 (sl3.below (by (repeat first|exact J0|assumption|(apply J1;assumption)|apply J2|apply J3|apply J4))) (by simp [maxLen]; omega) (by simp; omega) (Below.size (by (repeat first|exact J0|assumption|(apply J1;assumption)|apply J2|apply J3|apply J4))) ?_
       intro v6 w6 own6 hg6; have hb6 := Z3w own3 hg6 (by (repeat first|exact J0|assumption|(apply J1;assumption)|apply J2|apply J3|apply J4))
       refine hK _ _ hb6 ?_
       clear hK K; rw [List.nil_append] at own6; have one6 := one1.grown hg6 (by simp [Value.ownBlock])
       have ow := own6
       have on := one6
       rotate_left
       have one1 := Blk.new (w3.drew) 101 #[.int .i64 (p : Int), .bool d, .int .i64 0]
       intro K hK; go_simp; refine hK _ _ (by (repeat first|exact J0|assumption|(apply J1;assumption)|apply J2|apply J3|apply J4)) ?_
       clear hK K; refine Z5e (Z5g rfl rfl ?_ Z5f); have own1 := (Own.empty plc 3 ((w3.drew).alloc (.cells #[.int .i64 (p : Int), .bool d, .int .i64 0] 101)) 101).base_mono (show w3.heap.size ≤ ((w3.drew).alloc (.cells #[.int .i64 (p : Int), .bool d, .int .i64 0] 101)).heap.size by simp <;> omega)
       simp only [World.size_alloc] at own1; intro K hK; go_simp; refine hK _ _ (by (repeat first|exact J0|assumption|(apply J1;assumption)|apply J2|apply J3|apply J4)) ?_
       clear hK K; have one2 := one1.alloc (.cells #[] 101)
       refine Z5e (Z5g rfl rfl ?_ Z5f); intro K hK; simp only [Array.getD_eq_getD_getElem?, List.getElem?_toArray, List.getElem?_cons_succ, List.getElem?_cons_zero, Option.getD_some]; refine Z5j (l := ([] : List Plc)) (r := bg) Zr6 Zix Ziz _ _ rfl w3.heap.size (.slice (some ⟨w3.heap.size + 1, 0, none⟩) 0 0) _ rfl rfl own1 (sl3.below (by (repeat first|exact J0|assumption|(apply J1;assumption)|apply J2|apply J3|apply J4))) (by simp [maxLen]; omega) (by simp; omega) (Below.size (by (repeat first|exact J0|assumption|(apply J1;assumption)|apply J2|apply J3|apply J4))) ?_
       intro v6 w6 own6 hg6; have hb6 := Z3w own1 hg6 (by (repeat first|exact J0|assumption|(apply J1;assumption)|apply J2|apply J3|apply J4))
       refine hK _ _ hb6 ?_
       clear hK K; rw [List.nil_append] at own6; have one6 := one2.grown hg6 (by simp [Value.ownBlock])
       have ow := own6
       have on := one6
       rotate_left
       all_goals
        refine Z5e (Z5g rfl rfl ?_ Z5f); intro K hK; simp only [Array.getD_eq_getD_getElem?, List.getElem?_toArray, List.getElem?_cons_succ, List.getElem?_cons_zero, Option.getD_some]; refine Z5j (l := bg) (r := [((p : Int), d, (0 : Int))]) Zr6 Zix Ziz _ _ rfl w3.heap.size _ _ rfl rfl ow (Zu9 on) (by simp [maxLen]; omega) (by simp; omega) (Below.size (by (repeat first|exact J0|assumption|(apply J1;assumption)|apply J2|apply J3|apply J4))) ?_
        intro v7 w7 own7 hg7; have hb7 := Z3w ow hg7 (by (repeat first|exact J0|assumption|(apply J1;assumption)|apply J2|apply J3|apply J4))
        refine hK _ _ hb7 ?_
        clear hK K; obtain ⟨A7, c7, rfl⟩ := own7.shape; rw [hl1] at own7; refine Z5e (Z5g rfl rfl ?_ Z5f); intro K hK; go_simp; refine (hcR _ _ _ _ own7 hb7.size).mono ?_
        rintro e w8 ⟨v8, us, rfl, hT8, hR8, hb8⟩; refine hK _ _ (by (repeat first|exact J0|assumption|(apply J1;assumption)|apply J2|apply J3|apply J4)) ?_
        clear hK K; refine Z5d ?_; have hb38 : Below w3.heap.size w3 w8 := Z07 hb8 hb7
        have hT9 := hT3.below hb38
        have hul : us.length ≤ 100000 := by rw [hR8.len]; exact HG.out _
        go_wp2_with (at_builtin; refine Z3t rfl Zu8 Zd0 Zd1 _ _ rfl w.heap.size _ _ ts us rfl rfl hT9 (hT8.rd Zd0) (by simp [maxLen]; omega) (by omega) (Nat.le_trans hbw3.size hb38.size) ?_; intro v10 w10 hT10 hg10)
        have hR10 : Ztu base w10 (ts ++ us) (ordQ n m bg k ++ ordG n m (bg ++ [((p : Int), d, 0)])) := (hRw3.map_ fun v L h => ((h.below hb38).kept hg10 ((h.below hb38).ne_own hT9 (by decide)))).app (hR8.map_ fun v L h => (h.base_mono (Nat.le_trans hb hbw3.size)).kept hg10 (h.ne_own hT9 (by decide)))
        have hb10 : Below w.heap.size w w10 := Z08 hg10 (Z07 hb38 hbw3) (fun j e => (hT9.lt j e).1)
        go_wp2; go_roundw; case rel => exact ⟨k + 1, _, by omega, by go_num, hT10, by rw [HST.out, if_neg (by decide)]; exact hR10, hb10⟩
        case measure => simp [intOf]; omega
      ·go_wp2
       go_roundw; case rel => exact ⟨k + 1, ts, by omega, by go_num, hT3, by rw [HST.out, if_pos rfl, List.append_nil]; exact hRw3, hbw3⟩
       case measure => simp [intOf]; omega
   ·obtain rfl : k = 2 * n := by omega
    have u1 : (((2 * n : Nat) : Int) < 2 * (n : Int)) = False := eq_false (by omega)
    go_wp2; go_ret; exact ⟨_, _, rfl, hT, by rw [HE.out]; exact hRw, hbw⟩
theorem rbound_any {v : Value} (b : Bal) (l : List Pan) (w : World) (h : SlP w v l) (hP : PieL l) (hl16 : l.length ≤ 16) (hb : 1 ≤ b.2.1 ∧ b.2.1 ≤ 256) :
  Calls Tryz.prog 42 #[.agg #[sV b.1, .int .i64 b.2.1, .int .i64 b.2.2], v] w (RV w (.agg #[.int .i64 (Zmy b l).1, .int .i64 (Zmy b l).2])) := by
 have HBR := Lib.hid (fun (j : Nat) (hj : j < l.length) (u1 u2 : Value) W (h1 : SlE W u1 l[j].2.2.1) (h2 : SlE W u2 l[j].2.2.2) => Zsq l[j] W h1 h2 (Zar (hP _ (List.getElem_mem hj)).er))
 have HEX := Lib.hid (fun (j : Nat) (hj : j < l.length) (u1 u2 : Value) W (h1 : SlE W u1 l[j].2.2.1) (h2 : SlE W u2 l[j].2.2.2) => Zsu l[j] W h1 h2 (Zar (hP _ (List.getElem_mem hj)).er))
 have HEN : Hid (∀ (j : Nat) (hj : j < l.length), -4096 ≤ (Zid l[j]).1 ∧ (Zid l[j]).1 + 2 ≤ (Zid l[j]).2 ∧ (Zid l[j]).2 ≤ 4096) := fun j hj => by
  have := hP.v.ends (x := ((j : Int), false, 0)) (by unfold InP; simp only; omega)
  rw [Zl5 hj false 0, if_neg (by decide)] at this
  exact this
 have HBS : Hid (∀ (k : Nat) (hk : k < l.length), brF l (k + 1) = brF l k + barN l[k]) := fun k hk => by
  rw [Zq6 hk, Zsc (Zar (hP _ (List.getElem_mem hk)).er)]
 have HBN : Hid (∀ k, k ≤ l.length → 0 ≤ brF l k ∧ brF l k ≤ 65536) := fun k hk => by have := Zq7 hP k hk; omega
 have HWS : Hid (∀ (k : Nat) (hk : k < l.length), Zty l (k + 1) = max (Zty l k) (((Zid l[k]).2 - (Zid l[k]).1 + 1) / 2)) := fun k hk => by
  rw [Ztz hk]; unfold widP upI; congr 2
  omega
 have HWN : Hid (∀ k, 0 ≤ Zty l k ∧ Zty l k ≤ 4097) := fun k => Zu2 hP k
 have HB0 : Hid (brF l 0 = 0 ∧ Zty l 0 = 0) := ⟨rfl, rfl⟩
 have HBO : Hid ((Zmy b l).1 = (brF l l.length + 2 * b.2.1 - 1) / (2 * b.2.1) ∧ (Zmy b l).2 = Zty l l.length) := ⟨by rw [Zu1]; rfl, by rw [Zu0]; rfl⟩
 obtain ⟨⟨B1, B2⟩, hBB⟩ : ∃ z, Zmy b l = z := ⟨_, rfl⟩
 rw [hBB] at HBO ⊢
 simp only at HBO ⊢
 obtain ⟨nm, br, bl⟩ := b
 simp only at HBO hb ⊢
 have HH := Lib.hid h
 obtain ⟨A1, c1, rfl⟩ := Ztf h
 unfold sV
 have hB := ((Blk.new w 48 #[.string ⟨nm.toArray⟩, .int .i64 br, .int .i64 bl]).alloc (.cells #[.int .i64 0, .int .i64 0] 79)).alloc (.cells #[.int .i64 0, .int .i64 0] 79)
 have hZ := (Blk.new1 w (.cells #[.string ⟨nm.toArray⟩, .int .i64 br, .int .i64 bl] 48) 79 #[.int .i64 0, .int .i64 0]).alloc (.cells #[.int .i64 0, .int .i64 0] 79)
 have hX := Blk.new2 w (.cells #[.string ⟨nm.toArray⟩, .int .i64 br, .int .i64 bl] 48) (.cells #[.int .i64 0, .int .i64 0] 79) 79 #[.int .i64 0, .int .i64 0]
 clear hP h hBB
 go_enter Tryz.func42, Tryz.ntmps42
 go_upto_region 4 with fail
 obtain ⟨w1, hw1⟩ : ∃ X, ((w.alloc (.cells #[.string ⟨nm.toArray⟩, .int .i64 br, .int .i64 bl] 48)).alloc (.cells #[.int .i64 0, .int .i64 0] 79)).alloc (.cells #[.int .i64 0, .int .i64 0] 79) = X := ⟨_, rfl⟩
 have hb1 : Below w.heap.size w w1 := by rw [← hw1]; exact Z03 (Z03 (Z03 Z02 _) _) _
 rw [hw1] at hB hZ hX ⊢
 clear hw1
 have hz1 : w.heap.size + 2 < w1.heap.size := hX.lt
 obtain ⟨G, hG⟩ : ∃ z, w.heap.size + 1 + 1 = z := ⟨_, rfl⟩
 rw [hG] at hX ⊢
 have hGw : w.heap.size + 1 < G := by omega
 clear hG
 go_loopw [6, 7] (fun s i wr => ∃ k : Nat, k ≤ l.length ∧ i = .int .i64 k ∧ s = .int .i64 (brF l k) ∧ Blk wr G 79 #[.int .i64 0, .int .i64 (Zty l k)] ∧ Chg [G] w1 wr) (fun _ i _ => l.length - (intOf i).toNat)
 case atStart => exact ⟨0, Nat.zero_le _, rfl, by rw [HB0.out.1], by rw [HB0.out.2]; exact hX, Chg.refl⟩
 case round =>
  clear hX; obtain ⟨k, hk, rfl, rfl, hX, hc⟩ := hrel; obtain ⟨wo, rfl⟩ : ∃ x, x = wr := ⟨_, rfl⟩
  have hbwo : Below w.heap.size w wo := Z9a hb1 hc (by omega)
  by_cases hlt : k < l.length
  ·obtain ⟨bp, op, cp, vL, vR, hv, hbp, p0, p1, p2, p3, hL, hR⟩ := Zte (HH.out.below hbwo) hlt
   obtain ⟨rfl, rfl⟩ : A1 = _ ∧ c1 = _ := by simpa using hv
   have cB := fun W (hb : Below wo.heap.size wo W) => HBR.out k hlt vL vR W (hL.below hb) (hR.below hb)
   have cE := fun W (hb : Below wo.heap.size wo W) => HEX.out k hlt vL vR W (hL.below hb) (hR.below hb)
   have hen := HEN.out k hlt
   have hbs := HBS.out k hlt
   have hws := HWS.out k hlt
   have n1 := HBN.out k hk
   have n2 := HBN.out (k + 1) (by omega)
   have n3 := HWN.out k
   rw [hbs] at n2; obtain ⟨P, hPe⟩ : ∃ P, l[k] = P := ⟨_, rfl⟩
   rw [hPe] at p0 p1 cB cE hen hbs hws n2 hL hR; obtain ⟨N, hN⟩ : ∃ z, brF l k = z := ⟨_, rfl⟩
   rw [hN] at hbs n1 n2 ⊢; obtain ⟨Wd, hWd⟩ : ∃ z, Zty l k = z := ⟨_, rfl⟩
   rw [hWd] at hws n3 hX; obtain ⟨Q, hQ⟩ : ∃ z, barN P = z := ⟨_, rfl⟩
   rw [hQ] at hbs n2 cB; obtain ⟨⟨E1, E2⟩, hEE⟩ : ∃ z, Zid P = z := ⟨_, rfl⟩
   rw [hEE] at hen hws cE; simp only at hen hws cE
   have HBs := Lib.hid hbs
   have HWs := Lib.hid hws
   obtain ⟨e1, e2, e3⟩ := hen; obtain ⟨n4, n5⟩ := n1; obtain ⟨n6, n7⟩ := n2; obtain ⟨n8, n9⟩ := n3; obtain ⟨AL, cL, rfl, _, _, _⟩ := hL; obtain ⟨AR, cR, rfl, _, _, _⟩ := hR; unfold sV at p0 cB cE; clear hbs hws hN hWd hQ hEE hv; go_wp2_with fail; refine (cB _ (by (repeat first|exact J0|assumption|(apply J1;assumption)|apply J2|apply J3|apply J4))).mono ?_
   rintro e w3 ⟨rfl, hb3⟩; have hbp3 : bp < w3.heap.size := Nat.lt_of_lt_of_le hbp hb3.size
   have f0 := (hb3.cell (p := ⟨bp, op + k * 4, none⟩) hbp).trans p0
   have f1 := (hb3.cell (p := ⟨bp, op + k * 4 + 1, none⟩) hbp).trans p1
   have f2 := (hb3.cell (p := ⟨bp, op + k * 4 + 2, none⟩) hbp).trans p2
   have f3 := (hb3.cell (p := ⟨bp, op + k * 4 + 3, none⟩) hbp).trans p3
   go_wp2_with fail; refine (cE _ hb3).mono ?_
   rintro e w4 ⟨rfl, hb4⟩; have hb04 : Below wo.heap.size wo w4 := Z07 hb4 hb3
   have hE := Blk.new w4 119 #[.int .i64 E1, .int .i64 E2]
   have hX4 := (hX.below hb04).alloc (.cells #[.int .i64 E1, .int .i64 E2] 119)
   go_upto_region 8 with fail; obtain ⟨w5, hw5⟩ : ∃ X, w4.alloc (.cells #[.int .i64 E1, .int .i64 E2] 119) = X := ⟨_, rfl⟩
   have hb05 : Below wo.heap.size wo w5 := by rw [← hw5]; exact Z03 hb04 _
   rw [hw5] at hE hX4 ⊢; obtain ⟨g8, hg8⟩ : ∃ z, w4.heap.size = z := ⟨_, rfl⟩
   rw [hg8] at hE ⊢; have fE := hE.facts
   have fX := hX4.facts
   have hX5 := hX4.set_ 1 (.int .i64 (max Wd ((E2 - E1 + 1) / 2)))
   have hc5 := (hc.trans (Chg.of_below (S := [G]) hb05)).setIn (p := ⟨G, 1, none⟩) (by simp) (.int .i64 (max Wd ((E2 - E1 + 1) / 2)))
   clear hw5 hg8 hb3 hb4 hb04 hX hX4 f0 f1 f2 f3 p0 p1 p2 p3; go_wp2; go_roundw; case rel => exact ⟨k + 1, by omega, by go_num, by rw [HBs.out], by rw [HWs.out]; exact hX5, hc5⟩
   case measure => simp [intOf]; omega
  ·obtain rfl : k = l.length := by omega
   have hB2 := hB.chg hc (by simp; omega)
   have hZ2 := hZ.chg hc (by simp; omega)
   have fB := hB2.facts
   have fX := hX.facts
   have hnn := HBN.out _ (Nat.le_refl l.length)
   obtain ⟨hbo1, hbo2⟩ := HBO.out; obtain ⟨N, hN⟩ : ∃ z, brF l l.length = z := ⟨_, rfl⟩
   rw [hN] at hnn hbo1 ⊢; obtain ⟨Wd, hWd⟩ : ∃ z, Zty l l.length = z := ⟨_, rfl⟩
   rw [hWd] at hX fX hbo2; have r2 : (2 * br == 0) = false := by simp; omega
   have hd0 : 0 ≤ (N + 2 * br - 1) / (2 * br) := Int.ediv_nonneg (by omega) (by omega)
   have hd1 : (N + 2 * br - 1) / (2 * br) ≤ N + 2 * br - 1 := Int.ediv_le_self _ (by omega)
   have hq : (N + 2 * br - 1).tdiv (2 * br) = (N + 2 * br - 1) / (2 * br) := Int.tdiv_eq_ediv_of_nonneg (by omega)
   obtain ⟨n4, n5⟩ := hnn; obtain ⟨b1, b2⟩ := hb; have HO1 := Lib.hid hbo1
   have HO2 := Lib.hid hbo2
   clear hbo1 hbo2 hN hWd; obtain ⟨D, hD⟩ : ∃ z, (N + 2 * br - 1) / (2 * br) = z := ⟨_, rfl⟩
   rw [hD] at hd0 hd1 hq HO1; have hX9 : Blk (wo.setCell ⟨G, 0, none⟩ (.int .i64 D)) G 79 #[.int .i64 D, .int .i64 Wd] := hX.set_ 0 (.int .i64 D)
   have hZ9 := hZ2.setF (g' := G) (i := 0) (u := .int .i64 D) (by omega)
   have hb9 : Below w.heap.size w (wo.setCell ⟨G, 0, none⟩ (.int .i64 D)) := Z06 hbwo (show w.heap.size ≤ G by omega) _
   clear hD; go_upto_region 10 with fail; try rw [hq]
   obtain ⟨w9, hw9⟩ : ∃ z, wo.setCell ⟨G, 0, none⟩ (.int .i64 D) = z := ⟨_, rfl⟩
   rw [hw9] at hX9 hZ9 hb9 ⊢; have fX9 := hX9.facts
   clear hw9 fX fB hX hZ2 hB2; go_wp2_with (refine Z4i hZ9 rfl _ _ _ rfl rfl rfl (by rfl) (by kernel_rfl) (by kernel_rfl) ?_; intro w12 hZ12 hc12; have f12 := hZ12.facts)
   refine bodyPost_ret (v := .agg #[.int .i64 D, .int .i64 Wd]) (by simp [results, Tryz.results42, go_sem, f12]) rfl ?_
   exact ⟨by rw [HO1.out, HO2.out], Z9a hb9 hc12 (by omega)⟩
def bsL (a : Option (List Plc × Int)) : List Plc := match a with
 | none => []
 | some z => z.1
def RPF (w : World) (a : Option (List Plc × Int)) (e : Ending) (w' : World) : Prop := ∃ v, e = .returned (.tuple #[v, .bool a.isSome]) ∧ Own plc 3 w.heap.size 101 w' v (bsL a) ∧ Below w.heap.size w w'
def bsK (b : Bal) (l : List Pan) (k : Nat) : Option (List Plc × Int) := ((ordP l.length).take k).foldl (Zkm b l) none
theorem Zuc {b : Bal} {l : List Pan} {k : Nat} (hk : k < (ordP l.length).length) : bsK b l (k + 1) = if fitE b l (layP l (ordP l.length)[k]) = 0 ∧ (∀ z, bsK b l k = some z → lenP l (layP l (ordP l.length)[k]) < z.2) then some (layP l (ordP l.length)[k], lenP l (layP l (ordP l.length)[k])) else bsK b l k := by
 unfold bsK
 rw [List.take_succ_eq_append_getElem hk, List.foldl_append]
 rfl
theorem Zud (b : Bal) (l : List Pan) : bsK b l (ordP l.length).length = Zkn b l := by unfold bsK; rw [List.take_length]; rfl
theorem Zue (b : Bal) (l : List Pan) : ∀ k, k ≤ (ordP l.length).length → ∀ z, bsK b l k = some z → ∃ o, o ∈ ordP l.length ∧ z = (layP l o, lenP l (layP l o))
 | 0, _, z, h => by cases h
 | k + 1, hk, z, h => by
  rw [Zuc (by omega)] at h
  split at h
  ·cases h
   exact ⟨_, List.getElem_mem _, rfl⟩
  ·exact Zue b l k (by omega) z h
theorem Zuf {base n c : Nat} {e : TypeId} {w : World} {A : Option Addr} {ts : List SlV} (h : Own rc 1 base e w (.slice A n c) ts) {k : Nat} (hk : k < ts.length) : ∃ b off, A = some ⟨b, off, none⟩ ∧ b < w.heap.size ∧ w.cell? ⟨b, off + k, none⟩ = some (slV ts[k]) := by
 obtain ⟨A', c', h1, _, _, r⟩ := h.rd Zd0
 cases h1
 obtain ⟨b, off, e1, hlt, hc⟩ := r k _ (List.getElem?_eq_getElem hk)
 exact ⟨b, off, e1, hlt, by simpa using hc 0 _ rfl⟩
theorem Zug {n : Nat} (hn : n ≤ 3) : (ordP n).length ≤ 100000 := Zu6 (by omega) (by omega) []
theorem rbest_any {v : Value} (b : Bal) (l : List Pan) (w : World) (h : SlP w v l) (hP : PieL l) (hs : Pcs l) (hl3 : l.length ≤ 3) (hb : (1 ≤ b.2.1 ∧ b.2.1 ≤ 256) ∧ 1 ≤ b.2.2 ∧ b.2.2 ≤ 2000) :
  Calls Tryz.prog 43 #[.agg #[sV b.1, .int .i64 b.2.1, .int .i64 b.2.2], v] w (RPF w (Zkn b l)) := by
 have cO := fun W => Zub l.length (by omega) l.length [] none 0 w.heap.size W (by simp) Own.nil_
 have HIN : Hid (∀ o, o ∈ ordP l.length → InL l o ∧ o.length ≤ 16 ∧ InL l (layP l o) ∧ Zl9 (layP l o) 700000 ∧ EvnP (layP l o) ∧ (layP l o).length ≤ 16) := fun o ho => by
  obtain ⟨h1, h2⟩ := Zpf ho
  have hi : InL l o := fun x hx => by
   obtain ⟨i, hi, e⟩ := h2 x hx
   unfold InP; omega
  refine ⟨hi, by omega, Zl1 hi, fun x hx => ?_, Ziu l o, by rw [Zki]; omega⟩
  have := Zl0 hs o [] (fun x hx => hi x (by simpa using hx)) (fun x hx => by cases hx) x hx
  simp only [List.length_nil] at this; omega
 have HLA := Lib.hid (fun (o : List Plc) (ho : o ∈ ordP l.length) (A' : Option Addr) (c' : Nat) W (hb' : Below w.heap.size w W) (hr : Rd plc 3 W A' o) => Ztr l o A' c' W (h.below hb') hr hP hs (HIN.out o ho).1 (HIN.out o ho).2.1)
 have HCP := Lib.hid (fun (o : List Plc) (ho : o ∈ ordP l.length) (A' : Option Addr) (c' : Nat) W (hb' : Below w.heap.size w W) (hr : Rd plc 3 W A' (layP l o)) (hc : (layP l o).length ≤ c') => Ztq b l (layP l o) A' c' W (h.below hb') hr hP (HIN.out o ho).2.2.1 ((HIN.out o ho).2.2.2.1.mono (by omega)) (HIN.out o ho).2.2.2.2.1 (by omega) (by have := (HIN.out o ho).2.2.2.2.2; omega) hc)
 have HLN := Lib.hid (fun (o : List Plc) (ho : o ∈ ordP l.length) (A' : Option Addr) (c' : Nat) W (hb' : Below w.heap.size w W) (hr : Rd plc 3 W A' (layP l o)) => Ztm l (layP l o) A' c' W (h.below hb') hr hP (HIN.out o ho).2.2.1 ((HIN.out o ho).2.2.2.1.mono (by omega)) (by have := (HIN.out o ho).2.2.2.2.2; omega))
 have HBS : Hid (∀ (k : Nat) (hk : k < (ordP l.length).length), bsK b l (k + 1) = if fitE b l (layP l (ordP l.length)[k]) = 0 ∧ (∀ z, bsK b l k = some z → lenP l (layP l (ordP l.length)[k]) < z.2) then some (layP l (ordP l.length)[k], lenP l (layP l (ordP l.length)[k])) else bsK b l k) := fun k hk => Zuc hk
 have HBI : Hid (∀ k, k ≤ (ordP l.length).length → ∀ z, bsK b l k = some z → ∃ o, o ∈ ordP l.length ∧ z = (layP l o, lenP l (layP l o))) := Zue b l
 have HBA : Hid (bsK b l (ordP l.length).length = Zkn b l) := Zud b l
 have HB0 : Hid (bsK b l 0 = none) := rfl
 have hos := Zug hl3
 have HME : Hid (∀ (k : Nat) (hk : k < (ordP l.length).length), (ordP l.length)[k] ∈ ordP l.length) := fun k hk => List.getElem_mem hk
 have HOO : Hid (ordG l.length l.length [] = ordP l.length) := rfl
 rw [HOO.out] at cO
 obtain ⟨os, hose⟩ : ∃ z, ordP l.length = z := ⟨_, rfl⟩
 rw [hose] at cO HIN HLA HCP HLN HBS HBI HBA hos HME
 obtain ⟨nm, br, bl⟩ := b
 simp only [sV] at HCP ⊢
 obtain ⟨A1, c1, rfl⟩ := Ztf h
 have hB := Blk.new w 48 #[.string ⟨nm.toArray⟩, .int .i64 br, .int .i64 bl]
 clear hP hs h hose HOO
 go_enter Tryz.func43, Tryz.ntmps43
 go_upto_region 3 with fail
 obtain ⟨w1, hw1⟩ : ∃ X, w.alloc (.cells #[.string ⟨nm.toArray⟩, .int .i64 br, .int .i64 bl] 48) = X := ⟨_, rfl⟩
 have hb1 : Below w.heap.size w w1 := by rw [← hw1]; exact Z03 Z02 _
 rw [hw1] at hB ⊢
 clear hw1
 go_wp2_with fail
 refine (cO _ hb1.size).mono ?_
 rintro e w3 ⟨va, ts, rfl, hT3, hR3, hb3⟩
 have htl : ts.length = os.length := hR3.len
 obtain ⟨A3, c3, rfl⟩ := hT3.shape
 rw [htl] at hT3
 have HTL := Lib.hid htl
 clear htl
 rw [HTL.out]
 have hbw3 := Z07 hb3 hb1
 replace hB := hB.below hb3
 clear hb3 hb1 cO
 go_wp2
 go_loopw [6, 7, 9] (fun bv f i wr => ∃ k : Nat, k ≤ os.length ∧ i = .int .i64 k ∧ f = .bool (bsK (nm, br, bl) l k).isSome ∧ Own plc 3 w.heap.size 101 wr bv (bsL (bsK (nm, br, bl) l k)) ∧ Below w3.heap.size w3 wr) (fun _ _ i _ => os.length - (intOf i).toNat)
 case atStart => exact ⟨0, Nat.zero_le _, rfl, by rw [HB0.out]; rfl, by rw [HB0.out]; exact Own.nil_, Z02⟩
 case round =>
  obtain ⟨k, hk, rfl, rfl, hO, hbk⟩ := hrel; obtain ⟨wo, rfl⟩ : ∃ x, x = wr := ⟨_, rfl⟩
  have hbw := Z07 hbk hbw3
  by_cases hlt : k < os.length
  ·have hkt : k < ts.length := by rw [HTL.out]; exact hlt
   obtain ⟨b0, off, rfl, hlt0, e0⟩ := Zuf (hT3.below hbk) hkt
   have hRo := (hR3.get hkt hlt).below hbk
   have hmem := HME.out k hlt
   have hst := HBS.out k hlt
   have hiv := HBI.out k hk
   obtain ⟨o, hoe⟩ : ∃ z, os[k] = z := ⟨_, rfl⟩
   rw [hoe] at hRo hmem hst; obtain ⟨tk, htk⟩ : ∃ z, ts[k] = z := ⟨_, rfl⟩
   rw [htk] at e0 hRo; obtain ⟨A4, c4, hv4⟩ := hRo.shape; rw [hv4] at e0 hRo; obtain ⟨ro, hoc, -⟩ := Zua hRo
   have cLa := HLA.out o hmem A4 c4 wo hbw ro
   have HCK := Lib.hid (HCP.out o hmem)
   have HL1 := Lib.hid (HLN.out o hmem)
   have hln : (layP l o).length = o.length := Zki l o
   obtain ⟨Q, hQ⟩ : ∃ z, layP l o = z := ⟨_, rfl⟩
   rw [hQ] at cLa HCK HL1 hst hln; obtain ⟨a, ha⟩ : ∃ z, bsK (nm, br, bl) l k = z := ⟨_, rfl⟩
   rw [ha] at hO hst hiv ⊢; have HST := Lib.hid hst
   have HIV : Hid (∀ z, a = some z → ∃ o, o ∈ os ∧ z = (layP l o, lenP l (layP l o))) := hiv
   have hB0 := hB.below hbk
   clear hst hiv hoe htk hv4 hQ ha hRo ro hln hmem; go_wp2_with fail; refine (cLa).mono ?_
   rintro e w5 ⟨v5, rfl, hO5, hb5⟩; obtain ⟨A5, c5, rfl⟩ := hO5.shape; obtain ⟨r5, hl5, -⟩ := Zua hO5
   have hbw5 := Z07 hb5 hbw
   have hb35 := Z07 hb5 hbk
   have fB5 := (hB0.below hb5).facts
   have cCk := HCK.out A5 c5 w5 hbw5 r5 hl5
   have hO5 := hO5.base_mono (Nat.le_trans hbw3.size hbk.size)
   have hOb := hO.below hb5
   clear hO hb5 hB0 HCK; obtain ⟨F, hF⟩ : ∃ z, fitE (nm, br, bl) l Q = z := ⟨_, rfl⟩
   rw [hF] at cCk HST; clear hF; go_wp2_with fail; refine (cCk).mono ?_
   rintro e w6 ⟨rfl, hb6⟩; have hO6 := hO5.below hb6
   have hOb6 := hOb.below hb6
   have hb36 := Z07 hb6 hb35
   have r6 := r5.below hb6
   have hbw6 := Z07 hb6 hbw5
   clear hb6 hO5 hOb hb35 r5 hbw5 fB5; by_cases hz : F = 0
   ·have t1 : (F == 0) = true := by simp [hz]
    cases a with
    | none =>
     have HE : Hid (bsK (nm, br, bl) l (k + 1) = some (Q, lenP l Q)) := by unfold Hid; rw [HST.out, if_pos ⟨hz, fun z hz' => by cases hz'⟩]
     clear hz HST HIV HL1; go_wp2; go_roundw; case rel => exact ⟨k + 1, by omega, by go_num, by rw [HE.out]; rfl, by rw [HE.out]; exact hO6, hb36⟩
     case measure => simp [intOf]; omega
    | some z =>
     obtain ⟨o2, ho2, rfl⟩ := HIV.out z rfl
     have cL1 := HL1.out A5 c5 w6 hbw6 r6
     rw [show bsL (some (layP l o2, lenP l (layP l o2))) = layP l o2 from rfl] at hOb6
     obtain ⟨A7, c7, rfl⟩ := hOb6.shape; have hOb7 := hOb6
     obtain ⟨r7, -, -⟩ := Zua hOb7
     have HL2 := Lib.hid (HLN.out o2 ho2 A7 c7)
     have HSz : Hid (∀ y, some (layP l o2, lenP l (layP l o2)) = some y → y.2 = lenP l (layP l o2)) := fun y h => by cases h; rfl
     have HQ1 : Hid (lenP l Q < lenP l (layP l o2) → bsK (nm, br, bl) l (k + 1) = some (Q, lenP l Q)) := fun h => by
      rw [HST.out, if_pos ⟨hz, fun y hy => by rw [HSz.out y hy]; exact h⟩]
     have HQ2 : Hid (¬ lenP l Q < lenP l (layP l o2) → bsK (nm, br, bl) l (k + 1) = some (layP l o2, lenP l (layP l o2))) := fun h => by
      rw [HST.out, if_neg fun q => h (q.2 _ rfl)]
     obtain ⟨N1, hN1⟩ : ∃ z, lenP l Q = z := ⟨_, rfl⟩
     obtain ⟨P2, hP2⟩ : ∃ z, layP l o2 = z := ⟨_, rfl⟩
     rw [hP2] at HL2 HQ1 HQ2 hOb7 r7 ⊢; obtain ⟨N2, hN2⟩ : ∃ z, lenP l P2 = z := ⟨_, rfl⟩
     rw [hN1] at cL1 HQ1 HQ2; rw [hN2] at HL2 HQ1 HQ2; clear hN1 hN2 hP2 hOb6 HST HIV HL1 HSz hz; by_cases hlt2 : N1 < N2
     ·have t2 : (N1 < N2) = True := eq_true hlt2
      have HE := Lib.hid (HQ1.out hlt2)
      clear hlt2 HQ1 HQ2; go_wp2_with fail; refine (cL1).mono ?_
      rintro e w7 ⟨rfl, hb7⟩; go_wp2_with fail; refine (HL2.out w7 (Z07 hb7 hbw6) (r7.below hb7)).mono ?_
      rintro e w8 ⟨rfl, hb8⟩; have hb68 := Z07 hb8 hb7
      go_wp2; go_roundw; case rel => exact ⟨k + 1, by omega, by go_num, by rw [HE.out]; rfl, by rw [HE.out]; exact hO6.below hb68, Z07 hb68 hb36⟩
      case measure => simp [intOf]; omega
     ·have t2 : (N1 < N2) = False := eq_false hlt2
      have HE := Lib.hid (HQ2.out hlt2)
      clear hlt2 HQ1 HQ2; go_wp2_with fail; refine (cL1).mono ?_
      rintro e w7 ⟨rfl, hb7⟩; go_wp2_with fail; refine (HL2.out w7 (Z07 hb7 hbw6) (r7.below hb7)).mono ?_
      rintro e w8 ⟨rfl, hb8⟩; have hb68 := Z07 hb8 hb7
      go_wp2; go_roundw; case rel => exact ⟨k + 1, by omega, by go_num, by rw [HE.out]; rfl, by rw [HE.out]; exact hOb7.below hb68, Z07 hb68 hb36⟩
      case measure => simp [intOf]; omega
   ·have t1 : (F == 0) = false := by simp [hz]
    have HE : Hid (bsK (nm, br, bl) l (k + 1) = a) := by unfold Hid; rw [HST.out, if_neg fun h => hz h.1]
    clear hz HST HIV HL1; go_wp2; go_roundw; case rel => exact ⟨k + 1, by omega, by go_num, by rw [HE.out], by rw [HE.out]; exact hOb6, hb36⟩
    case measure => simp [intOf]; omega
  ·obtain rfl : k = os.length := by omega
   rw [HBA.out] at hO ⊢; obtain ⟨a, ha⟩ : ∃ z, Zkn (nm, br, bl) l = z := ⟨_, rfl⟩
   rw [ha] at hO ⊢; have HA := Lib.hid ha
   clear ha HBA HB0 HBS HBI; obtain ⟨A7, c7, rfl⟩ := hO.shape; go_wp2; refine bodyPost_ret (v := .tuple #[.slice A7 (bsL a).length c7, .bool a.isSome]) (by simp [results, Tryz.results43, go_sem]) rfl ?_
   exact ⟨_, by rw [HA.out], by rw [HA.out]; exact hO, Z07 hbk hbw3⟩
end Go.Proofs.YtpcgeihemkhkjaaGreatDoor
